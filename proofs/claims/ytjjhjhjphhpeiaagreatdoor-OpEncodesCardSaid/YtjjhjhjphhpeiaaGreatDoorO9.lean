/- Texts of a proof, part 9. Conditions: none. -/
import Derived.Test.YtjjhjhjphhpeiaaGreatDoorO8
set_option linter.unusedVariables false
set_option linter.unusedSimpArgs false
namespace Go.Proofs.YtjjhjhjphhpeiaaGreatDoor
open Go.ChangeShapes Go.WideShapes Go.ChangeAt Go.RowKit Go.Deep Go.Joins
section
variable {H : Type} {enc : TypeId × Value → H} {w : World}
theorem trod_struct5 {P : Program} {t : TypeId} {f0 f1 f2 f3 f4 : Field} {fuel : Nat} {cs : List Value} {x : DataW H × List MemPlace} (ht : P.underlying t = some (.struct #[f0, f1, f2, f3, f4])) (h : DataW.trod enc P w 0 (fun _ => true) true fuel t cs = some x) :
    ∃ y0 y1 y2 y3 y4 n, x.1 = .agg [y0.1, y1.1, y2.1, y3.1, y4.1] ∧ cs.length = P.cellsOf t ∧ DataW.trod enc P w 0 (fun _ => true) true n f0.type ((cs.drop f0.offset).take (P.cellsOf f0.type)) = some y0 ∧
      DataW.trod enc P w 0 (fun _ => true) true n f1.type ((cs.drop f1.offset).take (P.cellsOf f1.type)) = some y1 ∧ DataW.trod enc P w 0 (fun _ => true) true n f2.type ((cs.drop f2.offset).take (P.cellsOf f2.type)) = some y2 ∧
      DataW.trod enc P w 0 (fun _ => true) true n f3.type ((cs.drop f3.offset).take (P.cellsOf f3.type)) = some y3 ∧ DataW.trod enc P w 0 (fun _ => true) true n f4.type ((cs.drop f4.offset).take (P.cellsOf f4.type)) = some y4 := by
  obtain ⟨xs, n, _, rfl, hl, hlen, hf⟩ := DataW.trod_struct ht h
  match xs, hlen with
  | [y0, y1, y2, y3, y4], _ => exact ⟨y0, y1, y2, y3, y4, n, by simp, hl, by simpa using hf 0 f0 rfl, by simpa using hf 1 f1 rfl, by simpa using hf 2 f2 rfl, by simpa using hf 3 f3 rfl, by simpa using hf 4 f4 rfl⟩
def IsOp (w : World) (o : DOp) (cs : List Value) : Prop := InO o ∧ ∀ (η : Names) (X : Nat → Nat → Prop), (∀ b i, X b i) → Rep Tryz.prog w η X (encO o) (.agg cs.toArray)
theorem open_steps_cell {fuel : Nat} {u : Value} {x : DataW H × List MemPlace} (h : DataW.trod enc Tryz.prog w 0 (fun _ => true) true fuel 41 [u] = some x) (hs : Sized Tryz.prog 41 x.1) :
    ∃ l : List DStp, (∀ q ∈ l, q.1.length ≤ maxLen ∧ U64 (q.2 : Int)) ∧ ∀ (η : Names) (X : Nat → Nat → Prop), (∀ b i, X b i) → Rep Tryz.prog w η X (.sl .no (l.map encP)) u := by
  have elem : ∀ (fuel : Nat) (cs : List Value) (x : DataW H × List MemPlace) (b o : Nat), b < w.heap.size → DataW.trod enc Tryz.prog w 0 (fun _ => true) true fuel 79 cs = some x → Sized Tryz.prog 79 x.1 → cs.length = 2 → (∀ j u, cs[j]? = some u → w.cell? ⟨b, o + j, none⟩ = some u) → ∃ d, IsStep w b o d := fun fuel cs x b o hb h hs hlen hcell => by
    match cs, hlen with
    | [x0, x1], _ =>
      obtain ⟨y0, y1, n, hx, _, g0, g1⟩ := trod_struct2 Tryz.underlying79 h
      have k0 : Tryz.prog.cellsOf 9 = 1 := by kernel_rfl
      have k1 : Tryz.prog.cellsOf 42 = 1 := by kernel_rfl
      rw [hx] at hs
      simp only [k0, k1] at g0 g1
      obtain ⟨q1, e1, _, w1⟩ := DataW.trod_int Tryz.underlying42 g1
      obtain ⟨q2, e2, h2, w2⟩ := DataW.trod_string Tryz.underlying9 g0
      simp at e1 e2
      rw [sv_of] at e2
      have := bounds_u64 w1
      have hq : q1 = (q1.toNat : Int) := by omega
      refine ⟨(q2.data.toList, q1.toNat), (hcell 0 x0 rfl).trans (by rw [e2]), (hcell 1 x1 rfl).trans (by rw [e1]; unfold uv; rw [← hq]), ?_, by rw [← hq]; exact w1⟩
      show q2.data.toList.length ≤ maxLen
      simpa using w2
  obtain ⟨A, c, l, hu, hc, hr, hb⟩ := open_rows_trod (P := Tryz.prog) (size := 2) (bytes := 24) Tryz.underlying41 (by kernel_rfl) (by omega) (by kernel_rfl) (by omega) (IsStep w) elem h hs
  injection hu with hu _
  subst hu
  refine ⟨l, fun q hq => ?_, fun η X hX => ?_⟩
  · obtain ⟨i, hi, rfl⟩ := List.getElem_of_mem hq
    obtain ⟨b, o, _, _, hf⟩ := hr (by omega)
    exact (hf i _ (List.getElem?_eq_getElem hi)).2.2
  · rcases Nat.eq_zero_or_pos l.length with h0 | h0
    · obtain rfl : l = [] := List.eq_nil_of_length_eq_zero h0
      simp only [Rep, List.map_nil, List.length_nil]
      exact ⟨A, c, rfl, Nat.zero_le _, by omega, trivial, fun h => absurd h (by omega)⟩
    · obtain ⟨b, o, rfl, hbl, hf⟩ := hr h0
      refine rep_structs (F := (· < w.heap.size)) encP 2 (by omega) (fun b i _ => hX b i) (b := b) (o := o) (C := fun i => [sv (l.getD i default).1, uv (l.getD i default).2]) (fun _ => ⟨rfl, hbl⟩) (fun i a ha => ⟨rfl, fun j u hu => ?_⟩) (fun i a ha => ?_) (fun _ => rfl) hc (by omega)
      · have ha' : l.getD i default = a := by rw [List.getD_eq_getElem?_getD, ha]; rfl
        rw [ha'] at hu
        obtain ⟨h1, h2, _⟩ := hf i a ha
        match j, hu with
        | 0, hu => simp at hu; subst hu; exact h1
        | 1, hu => simp at hu; subst hu; exact h2
        | j + 2, hu => simp at hu
      · have ha' : l.getD i default = a := by rw [List.getD_eq_getElem?_getD, ha]; rfl
        rw [ha']
        simp only [encP, strD, u64D, Rep, RepL]
        exact ⟨_, rfl, ⟨_, _, rfl, rfl, _, _, rfl, rfl, rfl⟩, by simp [Value.oneCell']⟩
set_option maxRecDepth 20000 in
theorem open_op_trod {fuel : Nat} {cs : List Value} {x : DataW H × List MemPlace} (h : DataW.trod enc Tryz.prog w 0 (fun _ => true) true fuel 44 cs = some x) (hs : Sized Tryz.prog 44 x.1) : ∃ o, IsOp w o cs := by
  obtain ⟨y0, y1, y2, y3, y4, m, hx, hl, g0, g1, g2, g3, g4⟩ := trod_struct5 Tryz.underlying44 h
  have k0 : Tryz.prog.cellsOf 3 = 1 := by kernel_rfl
  have k1 : Tryz.prog.cellsOf 41 = 1 := by kernel_rfl
  have k2 : Tryz.prog.cellsOf 42 = 1 := by kernel_rfl
  have k3 : Tryz.prog.cellsOf 29 = 6 := by kernel_rfl
  have k4 : Tryz.prog.cellsOf 44 = 10 := by kernel_rfl
  rw [k4] at hl
  rw [hx] at hs
  match cs, hl with
  | [x0, x1, x2, x3, x4, x5, x6, x7, x8, x9], _ =>
    simp only [k0, k1, k2, k3] at g0 g1 g2 g3 g4
    obtain ⟨q0, e0, _, w0⟩ := DataW.trod_int Tryz.underlying3 g0
    obtain ⟨q2, e2, _, w2⟩ := DataW.trod_int Tryz.underlying42 g2
    obtain ⟨q3, e3, _, w3⟩ := DataW.trod_int Tryz.underlying42 g3
    simp at e0 e2 e3
    simp only [List.drop_succ_cons, List.drop_zero, List.take_succ_cons, List.take_zero] at g1 g4
    obtain ⟨l, hl1, hl2⟩ := open_steps_cell g1 (sized_each Tryz.underlying44 hs (j := 1) rfl rfl)
    obtain ⟨v, hv⟩ := open_value_trod _ _ _ _ (Nat.lt_succ_self _) g4 (sized_each Tryz.underlying44 hs (j := 4) rfl rfl)
    have b2 := bounds_u64 w2
    have b3 := bounds_u64 w3
    have n2 : ((q2.toNat : Nat) : Int) = q2 := Int.toNat_of_nonneg b2.1
    have n3 : ((q3.toNat : Nat) : Int) = q3 := Int.toNat_of_nonneg b3.1
    refine ⟨⟨q0, l, q2.toNat, q3.toNat, v⟩, ⟨fun p hp => (hl1 p hp).1, hv.ok, i64_of w0, by show U64 _; rw [n2]; exact w2, by show U64 _; rw [n3]; exact w3, fun p hp => (hl1 p hp).2⟩, fun η X hX => ?_⟩
    have hr := rep_val (P := Tryz.prog) (w := w) (η := η) (X := X) (F := (· < w.heap.size)) (fun b i _ => hX b i) hv
    rw [← agg_encV v] at hr
    simp only [Rep] at hr
    obtain ⟨vs, h1, h2, h3⟩ := hr
    injection h1 with h1
    have h1' : vs = [x4, x5, x6, x7, x8, x9] := by
      have := congrArg Array.toList h1
      simpa using this.symm
    subst h1'
    simp only [encO, Rep]
    refine ⟨_, rfl, ?_, fun u hu => ?_⟩
    · simp only [opCs, RepL]
      refine ⟨x0, _, rfl, by simp only [Rep]; rw [e0], x1, _, rfl, hl2 η X hX, x2, _, rfl, by simp only [Rep]; rw [e2, n2], x3, _, rfl, by simp only [Rep]; rw [e3, n3], h2⟩
    · simp only [List.mem_cons, List.not_mem_nil, or_false] at hu
      rcases hu with rfl | rfl | rfl | rfl | hu
      · rw [e0]; rfl
      · have := hl2 η X hX
        simp only [Rep] at this
        obtain ⟨A, c, rfl, _⟩ := this
        rfl
      · rw [e2]; rfl
      · rw [e3]; rfl
      · exact h3 u (by simpa using hu)
end
end Go.Proofs.YtjjhjhjphhpeiaaGreatDoor

namespace Go.Proofs.YtjjhjhjphhpeiaaGreatDoor
open Go.RowKit
section
set_option maxRecDepth 200000
set_option maxHeartbeats 8000000
theorem byte1_r {S : St} {b : Nat} {l : List UInt8} {c : UInt8} {cs : List D} (hb : S.ob b = some (.box 5 cs)) (hcs : cs.length = 1) :
    DCalls Tryz.prog 135 [.sl .no ((c :: l).map bD), .loc b 0] S fun d T => d = .tup [.v (.int .i64 ((1 : Nat) : Int)), .v (.int .i64 0)] ∧ T = S.set b (.box 5 [bD c]) := by
  refine dcalls_inline mixed Tryz.func135 rfl (fun _ _ => by kernel_rfl) (rs := [.tmp 3, .tmp 4]) rfl (by kernel_rfl) (fun hS => ?_)
  obtain ⟨c0, rfl⟩ : ∃ c, cs = [c] := by match cs, hcs with | [c], _ => exact ⟨c, rfl⟩
  have b1 : (((l.length + 1 : Nat) : Int) == 0) = false := by simp; omega
  (simp (disch := first | decide | omega | (simp only [nx]; first | done | omega)) only [go_sem, hb, List.map_cons, List.length_cons, b1, bD]; (repeat with_reducible refine aI ?_))
  rfl
theorem byte_r {S : St} {k : Nat} {l rest : List UInt8} {i : Nat} {c : UInt8} (hk : k < S.next) (hr : RAt k l i S) (hl : l.length ≤ 1099511627776) (hi : i ≤ l.length) (hd : l.drop i = c :: rest) :
    DCalls Tryz.prog 94 [.loc k 0] S fun d T => d = bD c ∧ RAt k l (i + 1) T ∧ RFr k S T := by
  have hs : i + 1 ≤ l.length := by
    have := congrArg List.length hd
    rw [List.length_drop, List.length_cons] at this; omega
  refine dcalls_inline mixed Tryz.func94 rfl (fun _ _ => by kernel_rfl) (rs := [.tmp 2]) rfl (by kernel_rfl) (fun hS => ?_)
  (simp (disch := first | decide | omega | (simp only [nx]; first | done | omega)) only [go_sem]; (repeat with_reducible refine aI ?_))
  refine (field_r _ [] _ (fun T => T = (S.add (.box 5 [.v (.int .u8 0)])).set S.next (.box 5 [bD c])) (by show k < S.next + 1; omega) (hr.keep fun j o e => by have := hS.lt e; rw [add_ne this, e]) hi hl (s := 1) hs ?_ ?_).mono ?_
  · rintro T rfl
    exact ⟨Nat.le_refl _, set_ne (by omega)⟩
  · rw [hd]
    exact byte1_r add_eq rfl
  · rintro _ T' ⟨rfl, T, own, rfl, hk', rfl⟩
    (simp (disch := first | decide | omega | (simp only [nx]; first | done | omega)) only [go_sem, hk']; (repeat with_reducible refine aI ?_))
    refine ⟨⟨own, set_eq⟩, ⟨by show S.next ≤ S.next + 1; omega, fun j o hj e => ?_⟩⟩
    have := hS.lt e
    rw [set_ne hj, set_ne (by omega), add_ne this, e]
theorem bool1_r {S : St} {b : Nat} {l : List UInt8} {c : Bool} {cs : List D} (hb : S.ob b = some (.box 4 cs)) (hcs : cs.length = 1) :
    DCalls Tryz.prog 171 [.sl .no (((if c then 1 else 0) :: l).map bD), .loc b 0] S fun d T => d = .tup [.v (.int .i64 ((1 : Nat) : Int)), .v (.int .i64 0)] ∧ T = S.set b (.box 4 [.v (.bool c)]) := by
  refine dcalls_inline mixed Tryz.func171 rfl (fun _ _ => by kernel_rfl) (rs := [.tmp 3, .tmp 4]) rfl (by kernel_rfl) (fun hS => ?_)
  obtain ⟨c0, rfl⟩ : ∃ c, cs = [c] := by match cs, hcs with | [c], _ => exact ⟨c, rfl⟩
  have b1 : (((l.length + 1 : Nat) : Int) == 0) = false := by simp; omega
  cases c with
  | true =>
    have e1 : bD 1 = .v (.int .u8 1) := rfl
    have b2 : decide ((1 : Int) < 1) = false := by decide
    have b3 : ((1 : Int) == 1) = true := by decide
    simp only [if_true, Bool.false_eq_true, if_false]
    (simp (disch := first | decide | omega | (simp only [nx]; first | done | omega)) only [go_sem, hb, List.map_cons, List.length_cons, b1, e1, b2, b3]; (repeat with_reducible refine aI ?_))
    rfl
  | false =>
    have e1 : bD 0 = .v (.int .u8 0) := rfl
    have b2 : decide ((1 : Int) < 0) = false := by decide
    have b3 : ((0 : Int) == 1) = false := by decide
    simp only [if_true, Bool.false_eq_true, if_false]
    (simp (disch := first | decide | omega | (simp only [nx]; first | done | omega)) only [go_sem, hb, List.map_cons, List.length_cons, b1, e1, b2, b3]; (repeat with_reducible refine aI ?_))
    rfl
theorem bool_r {S : St} {k : Nat} {l rest : List UInt8} {i : Nat} {c : Bool} (hk : k < S.next) (hr : RAt k l i S) (hl : l.length ≤ 1099511627776) (hi : i ≤ l.length) (hd : l.drop i = (if c then 1 else 0) :: rest) :
    DCalls Tryz.prog 158 [.loc k 0] S fun d T => d = .v (.bool c) ∧ RAt k l (i + 1) T ∧ RFr k S T := by
  have hs : i + 1 ≤ l.length := by
    have := congrArg List.length hd
    rw [List.length_drop, List.length_cons] at this; omega
  refine dcalls_inline mixed Tryz.func158 rfl (fun _ _ => by kernel_rfl) (rs := [.tmp 2]) rfl (by kernel_rfl) (fun hS => ?_)
  (simp (disch := first | decide | omega | (simp only [nx]; first | done | omega)) only [go_sem]; (repeat with_reducible refine aI ?_))
  refine (field_r _ [] _ (fun T => T = ((S.add (.box 4 [.v (.bool false)])).set S.next (.box 4 [.v (.bool false)])).set S.next (.box 4 [.v (.bool c)])) (by show k < S.next + 1; omega) (hr.keep fun j o e => by have := hS.lt e; rw [set_ne (by omega), add_ne this, e]) hi hl (s := 1) hs ?_ ?_).mono ?_
  · rintro T rfl
    exact ⟨Nat.le_refl _, set_ne (by omega)⟩
  · rw [hd]
    exact bool1_r set_eq rfl
  · rintro _ T' ⟨rfl, T, own, rfl, hk', rfl⟩
    (simp (disch := first | decide | omega | (simp only [nx]; first | done | omega)) only [go_sem, hk']; (repeat with_reducible refine aI ?_))
    refine ⟨⟨own, set_eq⟩, ⟨by show S.next ≤ S.next + 1; omega, fun j o hj e => ?_⟩⟩
    have := hS.lt e
    rw [set_ne hj, set_ne (by omega), set_ne (by omega), add_ne this, e]
theorem bin_shr1 {P : Program} {t : TypeId} {x y : Operand} (a : Nat) : dbin P .shr t x y (.v (.int .u64 a)) (.v (.int .u64 1)) = some (True, .v (.int .u64 ((a / 2 : Nat) : Int))) := by
  simp [dbin, eqGuard, binOp, shift_shr .u64 .u64 (a : Int) 1 (by omega) (by decide), pureRun_bind, pureRun_pure]
theorem bin_and {P : Program} {t : TypeId} {x y : Operand} (k : IntKind) (a b : Int) : dbin P .and t x y (.v (.int k a)) (.v (.int k b)) = some (True, .v (.int k (bits .and k a b))) := by
  simp [dbin, eqGuard, binOp, intBits_and, pureRun_bind, pureRun_pure]
theorem and1 (q : Nat) (h : IsU64 q) : bits BinOp.and IntKind.u64 (q : Int) 1 = ((q % 2 : Nat) : Int) := by
  have := bits_and_u64_nat q 1 h (by omega)
  rw [Nat.and_one_is_mod] at this
  exact this
theorem unzig_xor (n : Int) (hn : IsI64 n) : bits BinOp.xor IntKind.i64 ((zig n / 2 : Nat) : Int) (-((zig n % 2 : Nat) : Int)) = n := by
  have hz := zig_u64 n hn
  unfold IsU64 at hz
  have hu : (if zig n % 2 = 1 then -((zig n / 2 : Nat) : Int) - 1 else ((zig n / 2 : Nat) : Int)) = n := by
    unfold zig; split <;> split <;> omega
  generalize zig n = q at *
  rw [← hu]
  show IntKind.i64.wrap ((BitVec.ofInt 64 _ ^^^ BitVec.ofInt 64 _).toNat : Int) = _
  by_cases ho : q % 2 = 1
  · rw [if_pos ho, ho, show BitVec.ofInt 64 (-((1 : Nat) : Int)) = BitVec.allOnes 64 from by decide, BitVec.xor_allOnes, BitVec.toNat_not, BitVec.toNat_ofInt]
    simp only [IntKind.wrap_i64]
    omega
  · have h0 : q % 2 = 0 := by omega
    rw [if_neg ho, h0, show BitVec.ofInt 64 (-((0 : Nat) : Int)) = 0#64 from by decide, BitVec.xor_zero, BitVec.toNat_ofInt]
    simp only [IntKind.wrap_i64]
    omega
theorem int_r {S : St} {k : Nat} {l rest : List UInt8} {i : Nat} (n : Int) (hn : IsI64 n) (hk : k < S.next) (hr : RAt k l i S) (hl : l.length ≤ 1099511627776) (hi : i ≤ l.length) (hd : l.drop i = numB (zig n) ++ rest) :
    DCalls Tryz.prog 159 [.loc k 0] S fun d T => d = .v (.int .i64 n) ∧ RAt k l (i + (numB (zig n)).length) T ∧ RFr k S T := by
  refine dcalls_inline mixed Tryz.func159 rfl (fun _ _ => by kernel_rfl) (rs := [.tmp 2]) rfl (by kernel_rfl) (fun hS => ?_)
  (simp (disch := first | decide | omega | (simp only [nx]; first | done | omega)) only [go_sem]; (repeat with_reducible refine aI ?_))
  have hz := zig_u64 n hn
  refine (number_r (mx := 18446744073709551615) (n := zig n) (s := (numB (zig n)).length) hk hr hl hi (by rw [hd]; exact numP_numB _ _ hz) (by unfold IsU64 at hz; omega)).mono ?_
  rintro _ T ⟨rfl, h1, h2⟩
  have hzu : zig n < 18446744073709551616 := hz
  have w1 : IntKind.i64.wrap ((zig n / 2 : Nat) : Int) = ((zig n / 2 : Nat) : Int) := IntWalk.i64_in _ ⟨by omega, by omega⟩
  have w2 : IntKind.i64.wrap ((zig n % 2 : Nat) : Int) = ((zig n % 2 : Nat) : Int) := IntWalk.i64_in _ ⟨by omega, by omega⟩
  have w3 : IntKind.i64.wrap (0 - ((zig n % 2 : Nat) : Int)) = -((zig n % 2 : Nat) : Int) := by rw [IntKind.wrap_i64]; omega
  (simp (disch := first | decide | omega | (simp only [nx]; first | done | omega)) only [go_sem, bin_shr1, bin_and, bin_xor, and1 _ hz, cv_u64i64, w1, w2, w3, unzig_xor n hn]; (repeat with_reducible refine aI ?_))
  exact h2
end
end Go.Proofs.YtjjhjhjphhpeiaaGreatDoor

namespace Go.Proofs.YtjjhjhjphhpeiaaGreatDoor
open Go.RowKit
def vkindB (v : DVal) : UInt8 := UInt8.ofNat v.kind.toNat
def vheadB (v : DVal) : List UInt8 := vkindB v :: (if v.kind = 1 then [if v.n = 1 then 1 else 0] else if v.kind = 2 then numB (zig v.n) else if v.kind = 3 ∨ v.kind = 4 then numB v.s.length ++ v.s else numB v.parts.length)
def vkeyB (v : DVal) (i : Nat) : List UInt8 := if v.kind = 5 then numB (v.names.getD i []).length ++ v.names.getD i [] else numB (v.ids.getD i 0)
def bytesV : Nat → DVal → List UInt8
  | 0, _ => []
  | m + 1, v => vheadB v ++ (List.range v.parts.length).flatMap fun i => vkeyB v i ++ bytesV m (v.parts.getD i default)
def vpartB (m : Nat) (v : DVal) (i : Nat) : List UInt8 := (List.range i).flatMap fun i => vkeyB v i ++ bytesV m (v.parts.getD i default)
theorem vpartB_succ (m : Nat) (v : DVal) (i : Nat) : vpartB m v (i + 1) = vpartB m v i ++ (vkeyB v i ++ bytesV m (v.parts.getD i default)) := by
  unfold vpartB
  rw [List.range_succ, List.flatMap_append]
  simp
theorem isU64 {n : Nat} (h : U64 (n : Int)) : IsU64 n := by have := bounds_u64 h; unfold IsU64; omega
theorem isI64 {n : Int} (h : I64 n) : IsI64 n := by have := bounds_i64 h; unfold IsI64; omega
structure VFa (v : DVal) : Prop where
  kind : 1 ≤ v.kind ∧ v.kind ≤ 6
  s : v.s.length ≤ 64
  names : ∀ x ∈ v.names, x.length ≤ 12
  nn : v.names.length ≤ 8
  ni : v.ids.length ≤ 12
theorem RV.facts {v : DVal} (h : RV v) : VFa v := by
  obtain ⟨m, h1, h2⟩ := h
  obtain ⟨m, rfl⟩ : ∃ n, m = n + 1 := ⟨m - 1, by have := v.depth_pos; omega⟩
  rw [soundV, Bool.and_eq_true, hereV, Bool.and_eq_true, Bool.and_eq_true, Bool.not_eq_true', Bool.not_eq_true', decide_eq_false_iff_not, decide_eq_false_iff_not] at h2
  have h3 := h2.1.1.1
  have h4 := h2.1.1.2
  have h5 := h2.1.2
  rw [Bool.and_eq_true] at h5
  have hn4 : v.kind = 4 → v.s.length ≤ 12 := fun e => by
    cases hb : nameB v.s with
    | false => unfold bad2 at h4; rw [hb] at h4; simp [e] at h4
    | true =>
      unfold nameB at hb
      rw [Bool.and_eq_true, decide_eq_true_eq] at hb
      exact hb.2.2
  have hnm : ∀ x ∈ v.names, x.length ≤ 12 := fun x hx => by
    obtain ⟨i, hi, rfl⟩ := List.getElem_of_mem hx
    have := List.all_eq_true.1 h5.1 i (List.mem_range.2 hi)
    unfold riseOk at this
    rw [Bool.and_eq_true] at this
    have h6 := this.1
    have e : v.names.getD i [] = v.names[i] := getD_at hi
    simp only [e] at h6
    unfold nameB at h6
    rw [Bool.and_eq_true, decide_eq_true_eq] at h6
    exact h6.2.2
  unfold bad1 at h3
  unfold bad2 at h4
  refine ⟨by omega, ?_, hnm, by omega, by omega⟩
  by_cases e3 : v.kind = 3
  · omega
  · by_cases e4 : v.kind = 4
    · have := hn4 e4; omega
    · omega
theorem vhead_len {v : DVal} (h : VFa v) (ho : okV v) : (vheadB v).length ≤ 80 := by
  have hp := (okV_eq v).1 ho
  have h1 := numB_length_le v.s.length (by have := h.s; omega)
  unfold vheadB
  split
  · simp
  · split
    · have := numB_length_le (zig v.n) (zig_u64 v.n (isI64 hp.2.1))
      simp only [List.length_cons]; omega
    · split
      · have := h.s
        simp only [List.length_cons, List.length_append]; omega
      · have := numB_length_le v.parts.length (by have := hp.2.2.2.2.2.2.2.1; omega)
        simp only [List.length_cons]; omega
theorem vkey_len {v : DVal} (h : VFa v) (ho : okV v) (i : Nat) : (vkeyB v i).length ≤ 30 := by
  have hp := (okV_eq v).1 ho
  unfold vkeyB
  split
  · have hx : (v.names.getD i []).length ≤ 12 := by
      rcases Nat.lt_or_ge i v.names.length with hi | hi
      · rw [getD_at hi]; exact h.names _ (List.getElem_mem hi)
      · rw [List.getD, List.getElem?_eq_none hi]; simp
    have := numB_length_le (v.names.getD i []).length (by omega)
    simp only [List.length_append]; omega
  · have hx : IsU64 (v.ids.getD i 0) := by
      rcases Nat.lt_or_ge i v.ids.length with hi | hi
      · rw [getD_at hi]
        have := hp.2.2.2.2.2.1 _ (List.getElem_mem hi)
        exact isU64 this
      · rw [List.getD, List.getElem?_eq_none hi]; simp [IsU64]
    have := numB_length_le (v.ids.getD i 0) hx
    omega
theorem weights_snoc (l : List DVal) (p : DVal) : DVal.weights (l ++ [p]) = DVal.weights l + p.weight := by
  induction l with
  | nil => simp [DVal.weights]
  | cons a l ihl => simp only [List.cons_append, DVal.weights, ihl]; omega
mutual
theorem bytesV_len : ∀ (m : Nat) (v : DVal), v.depth ≤ m → RV v → okV v → (bytesV m v).length ≤ 110 * v.weight
  | 0, v, h, _, _ => by have := v.depth_pos; omega
  | m + 1, v, hd, hr, ho => by
    have h0 := vhead_len hr.facts ho
    have hh := hr.here
    have hwe := v.weight_eq
    have h5 := vpart_len m v v.parts.length (Nat.le_refl _) hd hr ho
    rw [List.take_of_length_le (Nat.le_refl _)] at h5
    show (vheadB v ++ vpartB m v v.parts.length).length ≤ _
    rw [List.length_append]
    have := hh.2.2
    omega
  termination_by m _ => (m, 1, 0)
theorem vpart_len : ∀ (m : Nat) (v : DVal) (i : Nat), i ≤ v.parts.length → v.depth ≤ m + 1 → RV v → okV v → (vpartB m v i).length ≤ 110 * DVal.weights (v.parts.take i) + 30 * i
  | m, v, 0, _, _, _, _ => by simp [vpartB]
  | m, v, i + 1, hi, hd, hr, ho => by
    have h1 := vpart_len m v i (by omega) hd hr ho
    have h2 := vkey_len hr.facts ho i
    have hlt : i < v.parts.length := hi
    have hm := List.getElem_mem hlt
    have h3 := bytesV_len m v.parts[i] (by have := DVal.depth_part hm; omega) (hr.part hm) (((okV_eq v).1 ho).2.2.2.2.2.2.2.2 _ hm)
    have e : v.parts.getD i default = v.parts[i] := getD_at hlt
    rw [vpartB_succ, List.length_append, List.length_append, e, List.take_succ_eq_append_getElem hlt, weights_snoc]
    omega
  termination_by m _ i => (m, 2, i)
end
set_option maxRecDepth 200000 in
set_option maxHeartbeats 8000000 in
theorem valWrite_w (m : Nat) : ∀ (v : DVal) {S : St} {k : Nat} {bs : List UInt8} (hd : v.depth ≤ m) (hr : RV v) (ho : okV v) (hw : v.weight ≤ 100000) (hk : k < S.next) (h : WAt k bs S) (hb : bs.length + 200 * v.weight ≤ 1000000000),
    DCalls Tryz.prog 87 [.loc k 0, encV v] S fun d T => d = undefD ∧ WAt k (bs ++ bytesV m v) T ∧ WFr k S T := by
  induction m with
  | zero => intro v S k bs h; have := v.depth_pos; omega
  | succ m ih =>
    intro v S k bs hd hr ho hw hk h hb
    have hf := hr.facts
    have hh := hr.here
    have hp := (okV_eq v).1 ho
    have hwe := v.weight_eq
    have hpl := partsLen v
    have hkk := hf.kind
    refine dcalls_inline mixed Tryz.func87 rfl (fun _ _ => by kernel_rfl) (rs := []) rfl (by kernel_rfl) (fun hS => ?_)
    have wk : IntKind.u8.wrap v.kind = ((vkindB v).toNat : Int) := by
      rw [IntKind.wrap_u8]
      unfold vkindB
      rw [UInt8.toNat_ofNat']
      omega
    (simp (disch := first | decide | omega | (simp only [nx]; first | done | omega)) only [go_sem, encV_eq v, wk]; (repeat with_reducible refine aI ?_))
    refine (byte_w (vkindB v) (k := k) (by show k < S.next + 1; omega) (h.box (by show S.next ≤ S.next + 1; omega) hS (add_keep hS _)) (by omega)).wf.mono ?_
    rintro _ T0 ⟨⟨rfl, hW0, hF0⟩, hT0⟩
    have hx0 := hF0.box S.next 29 [.v (.int .i64 v.kind), .v (.int .i64 v.n), .v (sv v.s), .sl .no (v.names.map strD), .sl .no (v.ids.map u64D), .sl .no (v.parts.map encV)] (by omega) (by (first | (simp (disch := first | decide | omega | (simp only [nx]; first | done | omega)) only [go_sem]; first | done | rfl) | rfl))
    have hn0 : S.next + 1 ≤ T0.next := hF0.next
    have hFS : WFr k S T0 := (WFr.of_keep (by show S.next ≤ S.next + 1; omega) (add_keep hS _)).trans hF0
    have hempty : v.kind ≠ 5 → v.kind ≠ 6 → v.parts.length = 0 := fun h5 h6 => by have := hh.1 h5; have := hh.2.1 h6; omega
    have kne : ∀ n : Int, v.kind ≠ n → (v.kind == n) = false := fun n h => by simpa using h
    have keq : ∀ n : Int, v.kind = n → (v.kind == n) = true := fun n h => by simpa using h
    by_cases k1 : v.kind = 1
    · have np1 := hempty (by omega) (by omega)
      have np0 : decide ((0 : Int) < (v.parts.length : Int)) = false := by rw [np1]; decide
      have b1 := keq 1 k1
      (simp (disch := first | decide | omega | (simp only [nx]; first | done | omega)) only [go_sem, hx0, b1]; (repeat with_reducible refine aI ?_))
      refine (bool_w (v.n == 1) (k := k) (by omega) hW0 (by simp; omega)).wf.mono ?_
      rintro _ T1 ⟨⟨rfl, hW1, hF1⟩, hT1⟩
      have hx1 := hF1.box S.next _ _ (by omega) hx0
      (simp (disch := first | decide | omega | (simp only [nx]; first | done | omega)) only [go_sem, hx1]; (repeat with_reducible refine aI ?_))
      refine dloop_fuel 1 hT1 (by kernel_rfl) ?_
      rw [loopN_eq]
      (simp (disch := first | decide | omega | (simp only [nx]; first | done | omega)) only [go_sem, hx1, np0]; (repeat with_reducible refine aI ?_))
      refine ⟨?_, hFS.trans hF1⟩
      show WAt k (bs ++ (vheadB v ++ vpartB m v v.parts.length)) _
      rw [np1]
      simpa [vheadB, vpartB, k1, List.append_assoc] using hW1
    by_cases k2 : v.kind = 2
    · have np1 := hempty (by omega) (by omega)
      have np0 : decide ((0 : Int) < (v.parts.length : Int)) = false := by rw [np1]; decide
      have b1 := kne 1 k1
      have b2 := keq 2 k2
      (simp (disch := first | decide | omega | (simp only [nx]; first | done | omega)) only [go_sem, hx0, b1, b2]; (repeat with_reducible refine aI ?_))
      refine (int_w v.n (isI64 hp.2.1) (k := k) (by omega) hW0 (by simp; omega)).wf.mono ?_
      rintro _ T1 ⟨⟨rfl, hW1, hF1⟩, hT1⟩
      have hx1 := hF1.box S.next _ _ (by omega) hx0
      (simp (disch := first | decide | omega | (simp only [nx]; first | done | omega)) only [go_sem, hx1]; (repeat with_reducible refine aI ?_))
      refine dloop_fuel 1 hT1 (by kernel_rfl) ?_
      rw [loopN_eq]
      (simp (disch := first | decide | omega | (simp only [nx]; first | done | omega)) only [go_sem, hx1, np0]; (repeat with_reducible refine aI ?_))
      refine ⟨?_, hFS.trans hF1⟩
      show WAt k (bs ++ (vheadB v ++ vpartB m v v.parts.length)) _
      rw [np1]
      simpa [vheadB, vpartB, k2, List.append_assoc] using hW1
    by_cases k3 : v.kind = 3
    · have np1 := hempty (by omega) (by omega)
      have np0 : decide ((0 : Int) < (v.parts.length : Int)) = false := by rw [np1]; decide
      have b1 := kne 1 k1
      have b2 := kne 2 k2
      have b3 := keq 3 k3
      have hsl := hf.s
      (simp (disch := first | decide | omega | (simp only [nx]; first | done | omega)) only [go_sem, hx0, b1, b2, b3]; (repeat with_reducible refine aI ?_))
      refine (text_w ⟨v.s.toArray⟩ (k := k) (by omega) hW0 (by simp; omega)).wf.mono ?_
      rintro _ T1 ⟨⟨rfl, hW1, hF1⟩, hT1⟩
      have hx1 := hF1.box S.next _ _ (by omega) hx0
      (simp (disch := first | decide | omega | (simp only [nx]; first | done | omega)) only [go_sem, hx1]; (repeat with_reducible refine aI ?_))
      refine dloop_fuel 1 hT1 (by kernel_rfl) ?_
      rw [loopN_eq]
      (simp (disch := first | decide | omega | (simp only [nx]; first | done | omega)) only [go_sem, hx1, np0]; (repeat with_reducible refine aI ?_))
      refine ⟨?_, hFS.trans hF1⟩
      show WAt k (bs ++ (vheadB v ++ vpartB m v v.parts.length)) _
      rw [np1]
      simpa [vheadB, vpartB, k3, List.append_assoc] using hW1
    by_cases k4 : v.kind = 4
    · have np1 := hempty (by omega) (by omega)
      have np0 : decide ((0 : Int) < (v.parts.length : Int)) = false := by rw [np1]; decide
      have b1 := kne 1 k1
      have b2 := kne 2 k2
      have b3 := kne 3 k3
      have b4 := keq 4 k4
      have hsl := hf.s
      (simp (disch := first | decide | omega | (simp only [nx]; first | done | omega)) only [go_sem, hx0, b1, b2, b3, b4]; (repeat with_reducible refine aI ?_))
      refine (text_w ⟨v.s.toArray⟩ (k := k) (by omega) hW0 (by simp; omega)).wf.mono ?_
      rintro _ T1 ⟨⟨rfl, hW1, hF1⟩, hT1⟩
      have hx1 := hF1.box S.next _ _ (by omega) hx0
      (simp (disch := first | decide | omega | (simp only [nx]; first | done | omega)) only [go_sem, hx1]; (repeat with_reducible refine aI ?_))
      refine dloop_fuel 1 hT1 (by kernel_rfl) ?_
      rw [loopN_eq]
      (simp (disch := first | decide | omega | (simp only [nx]; first | done | omega)) only [go_sem, hx1, np0]; (repeat with_reducible refine aI ?_))
      refine ⟨?_, hFS.trans hF1⟩
      show WAt k (bs ++ (vheadB v ++ vpartB m v v.parts.length)) _
      rw [np1]
      simpa [vheadB, vpartB, k4, List.append_assoc] using hW1
    have b1 := kne 1 k1
    have b2 := kne 2 k2
    have b3 := kne 3 k3
    have b4 := kne 4 k4
    have hnu : IsU64 v.parts.length := by unfold IsU64; omega
    (simp (disch := first | decide | omega | (simp only [nx]; first | done | omega)) only [go_sem, hx0, b1, b2, b3, b4, wrap_u64 v.parts.length hnu]; (repeat with_reducible refine aI ?_))
    refine (number_w v.parts.length hnu (k := k) (by omega) hW0 (by simp; omega)).wf.mono ?_
    rintro _ T1 ⟨⟨rfl, hW1, hF1⟩, hT1⟩
    have hx1 := hF1.box S.next _ _ (by omega) hx0
    have hn1 : T0.next ≤ T1.next := hF1.next
    have hFS1 := hFS.trans hF1
    have ehead : bs ++ [vkindB v] ++ numB v.parts.length = bs ++ vheadB v := by
      rw [vheadB, if_neg k1, if_neg k2, if_neg (by omega), List.append_assoc]; rfl
    rw [ehead] at hW1
    (simp (disch := first | decide | omega | (simp only [nx]; first | done | omega)) only [go_sem, hx1]; (repeat with_reducible refine aI ?_))
    refine dloop_up (fun t => List.contains [4, 5, 42, 43, 44, 45, 46, 47, 48, 49, 50, 51, 52, 53, 54, 55, 56, 57, 58, 59, 60, 61, 62, 63, 64, 65, 66, 67] t) (by kernel_rfl) hT1 v.parts.length (fun i g T => i ≤ v.parts.length ∧ g 42 = .v (.int .i64 ((i : Nat) : Int)) ∧ WAt k ((bs ++ vheadB v) ++ vpartB m v i) T ∧ WFr k S T ∧ T.ob S.next = some (.box 29 [.v (.int .i64 v.kind), .v (.int .i64 v.n), .v (sv v.s), .sl .no (v.names.map strD), .sl .no (v.ids.map u64D), .sl .no (v.parts.map encV)]) ∧ S.next < T.next) ⟨by omega, by (first | (simp (disch := first | decide | omega | (simp only [nx]; first | done | omega)) only [go_sem]; first | done | rfl) | rfl), by simpa [vpartB] using hW1, hFS1, hx1, by omega⟩ ?_
    rintro i g T hT hg ⟨le, q42, hW, hF, hx, hsn⟩
    have q0 := hg 0 rfl
    have q3 := hg 3 rfl
    have q40 := hg 40 rfl
    have q41 := hg 41 rfl
    simp (disch := first | decide | omega | (simp only [nx]; first | done | omega)) only [go_sem] at q0 q3 q40 q41
    clear hg
    by_cases hlt : i < v.parts.length
    · have b5 : decide ((i : Int) < (v.parts.length : Int)) = true := by simp; omega
      have w1 : IntKind.i64.wrap ((i : Int) + 1) = ((i + 1 : Nat) : Int) := IntWalk.i64_in _ ⟨by omega, by omega⟩
      have hmem := List.getElem_mem hlt
      have hpe : v.parts.getD i default = v.parts[i] := getD_at hlt
      have hkT : k < T.next := Nat.lt_of_lt_of_le hk hF.next
      have hWa : WAt k ((bs ++ vheadB v) ++ vpartB m v i) (T.add (.box 29 (encV v.parts[i]).cells)) := hW.box (by show T.next ≤ T.next + 1; omega) hT (add_keep hT _)
      have hFa : WFr k S (T.add (.box 29 (encV v.parts[i]).cells)) := hF.trans (WFr.of_keep (by show T.next ≤ T.next + 1; omega) (add_keep hT _))
      have hxa : (T.add (.box 29 (encV v.parts[i]).cells)).ob S.next = some (.box 29 [.v (.int .i64 v.kind), .v (.int .i64 v.n), .v (sv v.s), .sl .no (v.names.map strD), .sl .no (v.ids.map u64D), .sl .no (v.parts.map encV)]) := by (first | (simp (disch := first | decide | omega | (simp only [nx]; first | done | omega)) only [go_sem, hx]; first | done | rfl) | rfl)
      have hpa : (T.add (.box 29 (encV v.parts[i]).cells)).ob T.next = some (.box 29 (encV v.parts[i]).cells) := by (first | (simp (disch := first | decide | omega | (simp only [nx]; first | done | omega)) only [go_sem]; first | done | rfl) | rfl)
      have hkl := vkey_len hf ho i
      have hlen : ((bs ++ vheadB v) ++ vpartB m v i).length + 30 + 200 * v.parts[i].weight ≤ 1000000000 := by
        have h1 := vhead_len hf ho
        have h3 := vpart_len m v i le (by omega) hr ho
        have h4 : DVal.weights (v.parts.take i) + v.parts[i].weight ≤ DVal.weights v.parts := by
          have := weights_take_le v.parts (i + 1)
          rwa [List.take_succ_eq_append_getElem hlt, weights_snoc] at this
        have h5 := hh.2.2
        simp only [List.length_append]
        omega
      by_cases k5 : v.kind = 5
      · have b6 := keq 5 k5
        have hin : i < v.names.length := by have := hh.2.2; have := hh.2.1 (by omega); omega
        have hke : vkeyB v i = numB v.names[i].length ++ v.names[i] := by rw [vkeyB, if_pos k5, getD_at hin]
        have hnl := hf.names _ (List.getElem_mem hin)
        (simp (disch := first | decide | omega | (simp only [nx]; first | done | omega)) only [go_sem, q0, q3, q40, q41, q42, b5, hx, St.add_set, hxa, b6]; (repeat with_reducible refine aI ?_))
        refine (text_w ⟨v.names[i].toArray⟩ (k := k) (by show k < T.next + 1; omega) hWa (by simp only [List.toList_toArray]; omega)).mono ?_
        rintro _ T2 ⟨rfl, hW2, hF2⟩
        rw [show numB (ByteArray.mk v.names[i].toArray).data.toList.length ++ (ByteArray.mk v.names[i].toArray).data.toList = vkeyB v i by rw [hke]] at hW2
        have hx2 := hF2.box S.next _ _ (by omega) hxa
        have hxp := hF2.box T.next 29 (encV v.parts[i]).cells (by omega) hpa
        have hn2 : T.next + 1 ≤ T2.next := hF2.next
        (simp (disch := first | decide | omega | (simp only [nx]; first | done | omega)) only [go_sem, hxp, q0]; (repeat with_reducible refine aI ?_))
        refine (ih v.parts[i] (by have := DVal.depth_part hmem; omega) (hr.part hmem) (hp.2.2.2.2.2.2.2.2 _ hmem) (by have := DVal.weight_part hmem; omega) (k := k) (by omega) hW2 (by simp only [List.length_append] at hkl hlen ⊢; omega)).wf.mono ?_
        rintro _ T3 ⟨⟨rfl, hW3, hF3⟩, hT3⟩
        have hx3 := hF3.box S.next _ _ (by omega) hx2
        have hn3 : T2.next ≤ T3.next := hF3.next
        (simp (disch := first | decide | omega | (simp only [nx]; first | done | omega)) only [go_sem, q42, w1]; (repeat with_reducible refine aI ?_))
        refine ⟨hlt, T3.ob, fun _ _ h => h, by omega, by (first | (simp (disch := first | decide | omega | (simp only [nx]; first | done | omega)) only [go_sem]; first | done | rfl) | rfl), ?_, (hFa.trans hF2).trans hF3, hx3, by show S.next < T3.next; omega⟩
        show WAt k _ T3
        rw [vpartB_succ, hpe]
        simpa [List.append_assoc] using hW3
      · have b6 := kne 5 k5
        have hin : i < v.ids.length := by have := hh.2.2; have := hh.1 k5; omega
        have hke : vkeyB v i = numB v.ids[i] := by rw [vkeyB, if_neg k5, getD_at hin]
        (simp (disch := first | decide | omega | (simp only [nx]; first | done | omega)) only [go_sem, q0, q3, q40, q41, q42, b5, hx, St.add_set, hxa, b6]; (repeat with_reducible refine aI ?_))
        refine (number_w v.ids[i] (isU64 (hp.2.2.2.2.2.1 _ (List.getElem_mem hin))) (k := k) (by show k < T.next + 1; omega) hWa (by omega)).mono ?_
        rintro _ T2 ⟨rfl, hW2, hF2⟩
        rw [show numB v.ids[i] = vkeyB v i from hke.symm] at hW2
        have hx2 := hF2.box S.next _ _ (by omega) hxa
        have hxp := hF2.box T.next 29 (encV v.parts[i]).cells (by omega) hpa
        have hn2 : T.next + 1 ≤ T2.next := hF2.next
        (simp (disch := first | decide | omega | (simp only [nx]; first | done | omega)) only [go_sem, hxp, q0]; (repeat with_reducible refine aI ?_))
        refine (ih v.parts[i] (by have := DVal.depth_part hmem; omega) (hr.part hmem) (hp.2.2.2.2.2.2.2.2 _ hmem) (by have := DVal.weight_part hmem; omega) (k := k) (by omega) hW2 (by simp only [List.length_append] at hkl hlen ⊢; omega)).wf.mono ?_
        rintro _ T3 ⟨⟨rfl, hW3, hF3⟩, hT3⟩
        have hx3 := hF3.box S.next _ _ (by omega) hx2
        have hn3 : T2.next ≤ T3.next := hF3.next
        (simp (disch := first | decide | omega | (simp only [nx]; first | done | omega)) only [go_sem, q42, w1]; (repeat with_reducible refine aI ?_))
        refine ⟨hlt, T3.ob, fun _ _ h => h, by omega, by (first | (simp (disch := first | decide | omega | (simp only [nx]; first | done | omega)) only [go_sem]; first | done | rfl) | rfl), ?_, (hFa.trans hF2).trans hF3, hx3, by show S.next < T3.next; omega⟩
        show WAt k _ T3
        rw [vpartB_succ, hpe]
        simpa [List.append_assoc] using hW3
    · have b5 : decide ((i : Int) < (v.parts.length : Int)) = false := by simp; omega
      (simp (disch := first | decide | omega | (simp only [nx]; first | done | omega)) only [go_sem, q0, q3, q40, q41, q42, b5]; (repeat with_reducible refine aI ?_))
      have e : i = v.parts.length := by omega
      rw [e, List.append_assoc] at hW
      exact ⟨hW, hF⟩
end Go.Proofs.YtjjhjhjphhpeiaaGreatDoor

namespace Go.Proofs.YtjjhjhjphhpeiaaGreatDoor
open Go.RowKit
def stepB (p : DStp) : List UInt8 := (numB p.1.length ++ p.1) ++ (if p.1 = [] then numB p.2 else [])
def flatB (l : List DStp) : List UInt8 := l.flatMap stepB
def pathB (l : List DStp) : List UInt8 := numB l.length ++ flatB l
theorem flatB_succ {l : List DStp} {i : Nat} (h : i < l.length) : flatB (l.take (i + 1)) = flatB (l.take i) ++ stepB l[i] := by
  unfold flatB
  rw [List.take_succ_eq_append_getElem h, List.flatMap_append]
  simp
theorem stepB_len (p : DStp) (h : p.1.length ≤ 100) (hu : IsU64 p.2) : (stepB p).length ≤ 120 := by
  have h1 := numB_length_le p.1.length (by omega)
  have h2 := numB_length_le p.2 hu
  unfold stepB
  split <;> simp only [List.length_append, List.length_nil] <;> omega
theorem flatB_len : ∀ (l : List DStp), (∀ p ∈ l, p.1.length ≤ 100 ∧ IsU64 p.2) → (flatB l).length ≤ 120 * l.length
  | [], _ => by simp [flatB]
  | p :: l, h => by
    have h1 := stepB_len p (h p List.mem_cons_self).1 (h p List.mem_cons_self).2
    have h2 := flatB_len l fun q hq => h q (List.mem_cons_of_mem _ hq)
    unfold flatB at *
    simp only [List.flatMap_cons, List.length_append, List.length_cons]
    omega
theorem addset_keep {S : St} (hS : S.WF) (o1 o2 : Ob) : ∀ j o, S.ob j = some o → ((S.add o1).set S.next o2).ob j = some o := by
  intro j o h
  have hlt := hS.lt h
  rw [set_ne (by omega), add_ne hlt, h]
def writeB (l : List DStp) : List UInt8 := if rightP l = true then pathB l else []
set_option maxRecDepth 200000 in
set_option maxHeartbeats 8000000 in
theorem write_w {S : St} {k : Nat} {bs : List UInt8} (own : Own) (l : List DStp) (hk : k < S.next) (h : WAt k bs S) (hl : l.length ≤ 40) (hs : ∀ p ∈ l, p.1.length ≤ 100 ∧ IsU64 p.2) (hb : bs.length ≤ 1000000) :
    DCalls Tryz.prog 89 [.loc k 0, .sl own (l.map encP)] S fun d T => d = undefD ∧ WAt k (bs ++ writeB l) T ∧ WFr k S T := by
  refine dcalls_inline mixed Tryz.func89 rfl (fun _ _ => by kernel_rfl) (rs := []) rfl (by kernel_rfl) (fun hS => ?_)
  (simp (disch := first | decide | omega | (simp only [nx]; first | done | omega)) only [go_sem]; (repeat with_reducible refine aI ?_))
  refine DCalls.of_pure (pathRight_d own l (by omega) (fun p hp => by have := (hs p hp).1; unfold maxLen; omega)) ?_
  cases hR : rightP l
  · (simp (disch := first | decide | omega | (simp only [nx]; first | done | omega)) only [go_sem]; (repeat with_reducible refine aI ?_))
    rw [writeB, hR]
    simp only [Bool.false_eq_true, if_false, List.append_nil]
    exact ⟨h, WFr.refl k S⟩
  · rw [writeB, if_pos hR]
    have hu : IsU64 l.length := by unfold IsU64; omega
    (simp (disch := first | decide | omega | (simp only [nx]; first | done | omega)) only [go_sem, wrap_u64 l.length hu]; (repeat with_reducible refine aI ?_))
    refine (number_w l.length hu hk h (by omega)).wf.mono ?_
    rintro _ T0 ⟨⟨rfl, hW0, hF0⟩, hT0⟩
    (simp (disch := first | decide | omega | (simp only [nx]; first | done | omega)) only [go_sem]; (repeat with_reducible refine aI ?_))
    have hn10 := numB_length_le l.length hu
    refine dloop_up (fun t => List.contains [5, 16, 17, 18, 19, 20, 21, 22, 23, 24, 25, 26, 27, 28, 29, 30, 31] t) (by kernel_rfl) hT0 l.length (fun i g T => i ≤ l.length ∧ g 16 = .v (.int .i64 ((i : Nat) : Int)) ∧ WAt k ((bs ++ numB l.length) ++ flatB (l.take i)) T ∧ WFr k S T) ⟨by omega, rfl, by simpa [flatB] using hW0, hF0⟩ ?_
    rintro i g T hT hg ⟨le, q16, hW, hF⟩
    have q0 := hg 0 rfl
    have q14 := hg 14 rfl
    have q15 := hg 15 rfl
    simp (disch := first | decide | omega | (simp only [nx]; first | done | omega)) only [go_sem] at q0 q14 q15
    clear hg
    have hkT : k < T.next := Nat.lt_of_lt_of_le hk hF.next
    have hfl : (flatB (l.take i)).length ≤ 4800 := by
      have h1 := flatB_len (l.take i) fun p hp => hs p (List.mem_of_mem_take hp)
      have h2 : (l.take i).length ≤ 40 := by rw [List.length_take]; omega
      omega
    by_cases hlt : i < l.length
    · have b1 : decide ((i : Int) < (l.length : Int)) = true := by simp; omega
      have w1 : IntKind.i64.wrap ((i : Int) + 1) = ((i + 1 : Nat) : Int) := IntWalk.i64_in _ ⟨by omega, by omega⟩
      have hp := hs l[i] (List.getElem_mem hlt)
      (simp (disch := first | decide | omega | (simp only [nx]; first | done | omega)) only [go_sem, q0, q14, q15, q16, b1, encP]; (repeat with_reducible refine aI ?_))
      have hlen : ((bs ++ numB l.length) ++ flatB (l.take i)).length ≤ 1005000 := by
        rw [List.length_append, List.length_append]; omega
      refine (text_w ⟨l[i].1.toArray⟩ (k := k) (bs := (bs ++ numB l.length) ++ flatB (l.take i)) (by show k < T.next + 1; omega) (hW.box (by show T.next ≤ T.next + 1; omega) hT (addset_keep hT _ _)) (by simp only [List.toList_toArray]; omega)).mono ?_
      rintro _ T1 ⟨rfl, hW1, hF1⟩
      have hx := hF1.box T.next _ _ (by omega) set_eq
      have hn1 : T.next + 1 ≤ T1.next := hF1.next
      have hF2 : WFr k S T1 := (hF.trans (WFr.of_keep (by show T.next ≤ T.next + 1; omega) (addset_keep hT _ _))).trans hF1
      have hfs := flatB_succ hlt
      have hsl : numB l[i].1.length ++ l[i].1 = numB l[i].1.toArray.toList.length ++ l[i].1.toArray.toList := by simp
      by_cases h0 : l[i].1 = []
      · have b2 : (l[i].1 == []) = true := by simp [h0]
        (simp (disch := first | decide | omega | (simp only [nx]; first | done | omega)) only [go_sem, hx, b2, q0]; (repeat with_reducible refine aI ?_))
        refine (number_w l[i].2 hp.2 (k := k) (by omega) hW1 (by simp only [List.length_append, List.toList_toArray] at *; have := numB_length_le l[i].1.length (by omega); omega)).mono ?_
        rintro _ T2 ⟨rfl, hW2, hF3⟩
        (simp (disch := first | decide | omega | (simp only [nx]; first | done | omega)) only [go_sem, q16, w1]; (repeat with_reducible refine aI ?_))
        refine ⟨hlt, T2.ob, fun _ _ h => h, by omega, by (first | (simp (disch := first | decide | omega | (simp only [nx]; first | done | omega)) only [go_sem]; first | done | rfl) | rfl), ?_, hF2.trans hF3⟩
        rw [hfs, stepB, if_pos h0, hsl]
        simpa [List.append_assoc] using hW2
      · have b2 : (l[i].1 == []) = false := by simp [h0]
        (simp (disch := first | decide | omega | (simp only [nx]; first | done | omega)) only [go_sem, hx, b2, q16, w1]; (repeat with_reducible refine aI ?_))
        refine ⟨hlt, T1.ob, fun _ _ h => h, by omega, by (first | (simp (disch := first | decide | omega | (simp only [nx]; first | done | omega)) only [go_sem]; first | done | rfl) | rfl), ?_, hF2⟩
        rw [hfs, stepB, if_neg h0, hsl]
        simpa [List.append_assoc] using hW1
    · have b1 : decide ((i : Int) < (l.length : Int)) = false := by simp; omega
      (simp (disch := first | decide | omega | (simp only [nx]; first | done | omega)) only [go_sem, q0, q14, q15, q16, b1]; (repeat with_reducible refine aI ?_))
      refine ⟨?_, hF⟩
      rw [List.take_of_length_le (by omega)] at hW
      rw [pathB, ← List.append_assoc]
      exact hW
end Go.Proofs.YtjjhjhjphhpeiaaGreatDoor

namespace Go.Proofs.YtjjhjhjphhpeiaaGreatDoor
open Go.RowKit
theorem fineB_len {p : DStp} (h : fineB p = true) : p.1.length ≤ 12 := by
  unfold fineB at h
  rw [Bool.or_eq_true, Bool.and_eq_true, Bool.and_eq_true] at h
  rcases h with ⟨h, _⟩ | ⟨h, _⟩
  · unfold nameB at h
    simp only [Bool.and_eq_true, decide_eq_true_eq] at h
    omega
  · rw [eq_of_beq h]; simp
theorem fineB_zero {p : DStp} (h : fineB p = true) (h0 : p.1 ≠ []) : p.2 = 0 := by
  unfold fineB at h
  rw [Bool.or_eq_true, Bool.and_eq_true, Bool.and_eq_true] at h
  rcases h with ⟨_, h⟩ | ⟨h, _⟩
  · have := eq_of_beq h; omega
  · exact absurd (eq_of_beq h) h0
theorem RAt.obk {k : Nat} {l : List UInt8} {i j : Nat} {S T : St} (h : T.ob k = S.ob k) (hr : RAt k l i S) (hij : i = j := by omega) : RAt k l j T := by
  subst hij
  obtain ⟨own, hr⟩ := hr
  exact ⟨own, h.trans hr⟩
set_option maxRecDepth 200000 in
set_option maxHeartbeats 8000000 in
theorem step_r {S : St} {k : Nat} {l rest : List UInt8} {i : Nat} (p : DStp) (hk : k < S.next) (hr : RAt k l i S) (hl : l.length ≤ 1099511627776) (hi : i ≤ l.length) (hd : l.drop i = stepB p ++ rest) (hf : fineB p = true) (hu : IsU64 p.2) :
    DCalls Tryz.prog 136 [.loc k 0] S fun d T => d = encP p ∧ RAt k l (i + (stepB p).length) T ∧ RFr k S T := by
  have h12 := fineB_len hf
  have hN : bytP (l.drop i) 64 = some (p.1, (numB p.1.length).length + p.1.length) := by
    rw [hd, stepB, List.append_assoc]
    exact bytP_numB p.1 _ 64 (by omega) (by omega)
  have hil : i + ((numB p.1.length).length + p.1.length) ≤ l.length := by
    have := congrArg List.length hd
    rw [List.length_drop, stepB] at this
    simp only [List.length_append] at this
    omega
  refine dcalls_inline mixed Tryz.func136 rfl (fun _ _ => by kernel_rfl) (rs := [.cell 2 79]) rfl (by kernel_rfl) (fun hS => ?_)
  (simp (disch := first | decide | omega | (simp only [nx]; first | done | omega)) only [go_sem]; (repeat with_reducible refine aI ?_))
  refine (text_r (mx := 64) (by show k < S.next + 1; omega) (hr.keep (add_keep hS _)) hl hi (by omega) hN).wf.mono ?_
  rintro d0 T ⟨⟨hd0, h1, hF⟩, hT⟩
  have hd1 : d0 = .v (sv p.1) := hd0
  subst hd1
  clear hd0
  have hx := hF.box S.next _ _ (by omega) add_eq
  have hn1 : S.next + 1 ≤ T.next := hF.next
  have hFS : RFr k S T := (RFr.add (RFr.refl k S) hS _).trans hF
  by_cases h0 : p.1 = []
  · have b2 : (p.1 == []) = true := by simp [h0]
    have hd2 : l.drop (i + ((numB p.1.length).length + p.1.length)) = numB p.2 ++ rest := by
      rw [← List.drop_drop, hd, stepB, if_pos h0, List.append_assoc, ← List.length_append, List.drop_left]
    have hsl : (stepB p).length = (numB p.1.length).length + p.1.length + (numB p.2).length := by rw [stepB, if_pos h0]; simp only [List.length_append]
    (simp (disch := first | decide | omega | (simp only [nx]; first | done | omega)) only [go_sem, b2]; (repeat with_reducible refine aI ?_))
    refine (number_r (mx := 18446744073709551615) (n := p.2) (s := (numB p.2).length) (by show k < T.next + 1; omega) (h1.keep (addset_keep hT _ _)) hl hil (by rw [hd2]; exact numP_numB _ _ hu) (by unfold IsU64 at hu; omega)).wf.mono ?_
    rintro _ T1 ⟨⟨rfl, h2, hF2⟩, hT1⟩
    have hx1 := hF2.box T.next _ _ (by omega) set_eq
    have hx0 := hF2.box S.next _ _ (by omega) (addset_keep hT _ _ _ _ hx)
    have hn2 : T.next + 1 ≤ T1.next := hF2.next
    (simp (disch := first | decide | omega | (simp only [nx]; first | done | omega)) only [go_sem, hx1, hx0]; (repeat with_reducible refine aI ?_))
    refine DCalls.of_pure (fine_d p (by unfold maxLen; omega)) ?_
    have hne : (S.next = T.next) = False := by simp; omega
    (simp (disch := first | decide | omega | (simp only [nx]; first | done | omega)) only [go_sem, hx1, hx0, hf, hne]; (repeat with_reducible refine aI ?_))
    refine ⟨rfl, RAt.obk ?_ h2, ⟨?_, fun j o hj e => ?_⟩⟩
    · rw [set_ne (by omega), set_ne (by omega)]
    · show S.next ≤ T1.next; omega
    · have := hS.lt e
      rw [set_ne (by omega), set_ne (by omega)]
      exact hF2.ob j o hj (addset_keep hT _ _ _ _ (hFS.ob j o hj e))
  · have b2 : (p.1 == []) = false := by simp [h0]
    (simp (disch := first | decide | omega | (simp only [nx]; first | done | omega)) only [go_sem, b2]; (repeat with_reducible refine aI ?_))
    have hz := fineB_zero hf h0
    have hsl : (stepB p).length = (numB p.1.length).length + p.1.length := by rw [stepB, if_neg h0]; simp only [List.length_append, List.length_nil]; omega
    have hx0 := addset_keep hT (.box 79 [.v (.string ⟨#[]⟩), .v (.int .u64 0)]) (.box 79 [.v (sv p.1), .v (.int .u64 0)]) _ _ hx
    have he : encP p = .agg [.v (sv p.1), .v (.int .u64 0)] := by rw [encP, hz]; rfl
    have hfd := fine_d p (by unfold maxLen; omega)
    rw [he] at hfd
    refine DCalls.of_pure hfd ?_
    have hne : (S.next = T.next) = False := by simp; omega
    (simp (disch := first | decide | omega | (simp only [nx]; first | done | omega)) only [go_sem, hx, hx0, hf, hne]; (repeat with_reducible refine aI ?_))
    refine ⟨he.symm, RAt.obk ?_ h1, ⟨?_, fun j o hj e => ?_⟩⟩
    · obtain ⟨_, h1'⟩ := h1
      rw [set_ne (by omega), set_ne (by omega), add_ne (by omega)]
    · show S.next ≤ T.next + 1; omega
    · have := hS.lt e
      rw [set_ne (by omega)]
      exact addset_keep hT _ _ _ _ (hFS.ob j o hj e)
end Go.Proofs.YtjjhjhjphhpeiaaGreatDoor

namespace Go.Proofs.YtjjhjhjphhpeiaaGreatDoor
open Go.RowKit
theorem DCalls.frz {P : Program} {g : FuncId} {args : List D} {S : St} {K K' : D → St → Prop} (h : DCalls P g args S K) (hk : ∀ d T, K d T → K' d.frz T) : DCalls P g args S K' := fun base η w vs hM hr => by
  rcases h base η w vs hM hr with ⟨h1, h2⟩ | ⟨d, S', η', v, w', h1, h2, h3, h4⟩
  · exact .inl ⟨h1, h2.mono fun _ _ ⟨d, S', η', v, h1, h2, h3, h4⟩ => ⟨d.frz, S', η', v, hk _ _ h1, h2, h3.frz, h4⟩⟩
  · exact .inr ⟨d.frz, S', η', v, w', h1, hk _ _ h2, h3.frz, h4⟩
theorem rise_d (own : Own) (l : List Str) (hz : ∀ s ∈ l, s.length ≤ maxLen) (hn : l.length ≤ 140737488351232) : DPure Tryz.prog 153 [.sl own (l.map strD)] (.v (.bool (riseV l))) :=
  dpure_of_gives (fun _ _ => by kernel_rfl) fun w η X vs hr => by
    simp only [RepL] at hr
    obtain ⟨y, ys, rfl, h1, rfl⟩ := hr
    obtain ⟨A, c, rfl, hc, hf⟩ := strArg h1
    exact riseV_calls l A c w hf hz hn
theorem ids_d (own : Own) (l : List Nat) (hn : l.length ≤ 140737488351232) : DPure Tryz.prog 154 [.sl own (l.map u64D)] (.v (.bool (idsB l))) :=
  dpure_of_gives (fun _ _ => by kernel_rfl) fun w η X vs hr => by
    simp only [RepL] at hr
    obtain ⟨y, ys, rfl, h1, rfl⟩ := hr
    obtain ⟨A, c, rfl, hc, hf⟩ := scalars_of_rep uv h1
    exact (ids_calls l A c w hf hn hc).mono fun e w' ⟨he, hw⟩ => ⟨he, hw ▸ Below.refl _ _⟩
section
set_option maxRecDepth 200000
set_option maxHeartbeats 8000000
theorem name_r {S : St} {k : Nat} {l rest : List UInt8} {i : Nat} (s : Str) (hk : k < S.next) (hr : RAt k l i S) (hl : l.length ≤ 1099511627776) (hi : i ≤ l.length) (hd : l.drop i = numB s.length ++ s ++ rest) (hs : nameB s = true) :
    DCalls Tryz.prog 160 [.loc k 0] S fun d T => d = strD s ∧ RAt k l (i + ((numB s.length).length + s.length)) T ∧ RFr k S T := by
  have h12 : s.length ≤ 12 := by
    unfold nameB at hs
    rw [Bool.and_eq_true, decide_eq_true_eq] at hs
    exact hs.2.2
  refine dcalls_inline mixed Tryz.func160 rfl (fun _ _ => by kernel_rfl) (rs := [.tmp 2]) rfl (by kernel_rfl) (fun hS => ?_)
  (simp (disch := first | decide | omega | (simp only [nx]; first | done | omega)) only [go_sem]; (repeat with_reducible refine aI ?_))
  refine (text_r (xs := s) (mx := 64) hk hr hl hi (by omega) (by rw [hd]; exact bytP_numB s rest 64 (by omega) (by omega))).mono ?_
  rintro _ T ⟨rfl, h1, h2⟩
  (simp (disch := first | decide | omega | (simp only [nx]; first | done | omega)) only [go_sem]; (repeat with_reducible refine aI ?_))
  refine DCalls.of_pure (name_d s (by unfold maxLen; omega)) ?_
  rw [hs]
  (simp (disch := first | decide | omega | (simp only [nx]; first | done | omega)) only [go_sem]; (repeat with_reducible refine aI ?_))
  exact ⟨rfl, h1, h2⟩
theorem count_r {S : St} {k : Nat} {l rest : List UInt8} {i n mx : Nat} (hk : k < S.next) (hr : RAt k l i S) (hl : l.length ≤ 1099511627776) (hi : i ≤ l.length) (hd : l.drop i = numB n ++ rest) (hn : n ≤ mx) (hm : mx ≤ 1000) :
    DCalls Tryz.prog 161 [.loc k 0, .v (.int .i64 (mx : Int))] S fun d T => d = .v (.int .i64 (n : Int)) ∧ RAt k l (i + (numB n).length) T ∧ RFr k S T := by
  refine dcalls_inline mixed Tryz.func161 rfl (fun _ _ => by kernel_rfl) (rs := [.tmp 4]) rfl (by kernel_rfl) (fun hS => ?_)
  (simp (disch := first | decide | omega | (simp only [nx]; first | done | omega)) only [go_sem]; (repeat with_reducible refine aI ?_))
  refine (number_r (mx := 18446744073709551615) (n := n) (s := (numB n).length) hk hr hl hi (by rw [hd]; exact numP_numB _ _ (by omega)) (by omega)).mono ?_
  rintro _ T ⟨rfl, h1, h2⟩
  have w1 : IntKind.u64.wrap (mx : Int) = (mx : Int) := wrap_u64 mx (by unfold IsU64; omega)
  have w2 : IntKind.i64.wrap (n : Int) = (n : Int) := IntWalk.i64_in _ ⟨by omega, by omega⟩
  have b1 : decide ((mx : Int) < (n : Int)) = false := by simp; omega
  (simp (disch := first | decide | omega | (simp only [nx]; first | done | omega)) only [go_sem, cv_i64u64, cv_u64i64, w1, w2, b1]; (repeat with_reducible refine aI ?_))
  exact h2
end
end Go.Proofs.YtjjhjhjphhpeiaaGreatDoor

namespace Go.Proofs.YtjjhjhjphhpeiaaGreatDoor
open Go.RowKit
theorem wd_P (l : List DStp) : ∀ d ∈ l.map encP, d.width = szOf Tryz.prog 79 := by
  intro d hd
  obtain ⟨p, _, rfl⟩ := List.mem_map.1 hd
  exact Eq.trans rfl (by kernel_rfl : 2 = szOf Tryz.prog 79)
theorem dapp_steps {S : St} {ty : TypeId} {own own2 : Own} {a b : List DStp} {K : D → St → Prop} (h : own = .full ∨ ∃ g, own = .row g ∧ S.ob g = some (.row 79 a.length)) (hl : a.length + b.length ≤ 1000000)
    (k : K (.sl (.row S.next) ((a ++ b).map encP)) (S.grow own 79 (a.length + b.length))) : dapp Tryz.prog S 41 41 ty (.sl own (a.map encP)) (.sl own2 (b.map encP)) K := by
  refine dapp_row ?_
  have he : elT Tryz.prog 41 = some 79 := by kernel_rfl
  have hb : bytesOf Tryz.prog 79 = 24 := by kernel_rfl
  have hz : zeroT Tryz.prog 79 = true := by kernel_rfl
  simp only [dappend, he, hz, hb, List.length_map, ← List.map_append, true_and, Option.isSome_some]
  refine ⟨wd_P a, wd_P b, ?_, by omega, by omega, k⟩
  rcases h with rfl | ⟨g, rfl, h⟩
  · trivial
  · exact h
theorem grow_old {S : St} {own : Own} {e : TypeId} {n m : Nat} (hm : m < S.next) (h : ∀ r, own = .row r → m ≠ r) : (S.grow own e n).ob m = S.ob m := by
  cases own with
  | no => simp [St.grow, St.leave, St.add, show m ≠ S.next by omega]
  | full => simp [St.grow, St.leave, St.add, show m ≠ S.next by omega]
  | row r => simp [St.grow, St.leave, St.add, St.drop, show m ≠ S.next by omega, h r rfl]
theorem grow_new {S : St} {own : Own} {e : TypeId} {n : Nat} : (S.grow own e n).ob S.next = some (.row e n) := by
  cases own <;> simp [St.grow, St.leave, St.add, St.drop]
theorem flatB_split {l : List DStp} {j : Nat} (h : j < l.length) : flatB l = flatB (l.take j) ++ (stepB l[j] ++ flatB (l.drop (j + 1))) := by
  unfold flatB
  have e : l = l.take j ++ (l[j] :: l.drop (j + 1)) := by rw [← List.drop_eq_getElem_cons h, List.take_append_drop]
  conv => lhs; rw [e]
  rw [List.flatMap_append, List.flatMap_cons]
theorem drop_place {L rest : List UInt8} {l : List DStp} {i j : Nat} (hd : L.drop i = pathB l ++ rest) (h : j < l.length) : L.drop (i + (numB l.length).length + (flatB (l.take j)).length) = stepB l[j] ++ (flatB (l.drop (j + 1)) ++ rest) := by
  rw [Nat.add_assoc, ← List.drop_drop, hd, pathB, flatB_split h, ← List.length_append]
  simp only [List.append_assoc]
  rw [← List.append_assoc, List.drop_left]
set_option maxRecDepth 200000 in
set_option maxHeartbeats 8000000 in
theorem read_r {S : St} {k : Nat} {L rest : List UInt8} {i : Nat} (l : List DStp) (hk : k < S.next) (hr : RAt k L i S) (hL : L.length ≤ 1099511627776) (hi : i ≤ L.length) (hd : L.drop i = pathB l ++ rest) (hR : rightP l = true) (hu : ∀ p ∈ l, IsU64 p.2) :
    DCalls Tryz.prog 96 [.loc k 0] S fun d T => (∃ o, d = .sl o (l.map encP)) ∧ RAt k L (i + (pathB l).length) T ∧ RFr k S T := by
  have h8 : l.length ≤ 8 := by
    unfold rightP at hR; rw [Bool.and_eq_true, decide_eq_true_eq] at hR; exact hR.1
  have hfine : ∀ p ∈ l, fineB p = true := by
    unfold rightP at hR; rw [Bool.and_eq_true, List.all_eq_true] at hR; exact hR.2
  have hil : i + (pathB l).length ≤ L.length := by
    have := congrArg List.length hd
    rw [List.length_drop, List.length_append] at this
    omega
  have hpl : (pathB l).length = (numB l.length).length + (flatB l).length := by rw [pathB, List.length_append]
  refine dcalls_inline mixed Tryz.func96 rfl (fun _ _ => by kernel_rfl) (rs := [.tmp 2]) rfl (by kernel_rfl) (fun hS => ?_)
  (simp (disch := first | decide | omega | (simp only [nx]; first | done | omega)) only [go_sem]; (repeat with_reducible refine aI ?_))
  refine (number_r (mx := 18446744073709551615) (n := l.length) (s := (numB l.length).length) hk hr hL hi (by rw [hd, pathB, List.append_assoc]; exact numP_numB _ _ (by omega)) (by omega)).wf.mono ?_
  rintro _ T0 ⟨⟨rfl, h0, hF0⟩, hT0⟩
  have b8 : decide ((8 : Int) < (l.length : Int)) = false := by simp; omega
  (simp (disch := first | decide | omega | (simp only [nx]; first | done | omega)) only [go_sem, b8]; (repeat with_reducible refine aI ?_))
  refine dloop_up (fun t => List.contains [4, 5, 12, 13, 14, 15, 16, 17, 18, 19, 20, 21, 22, 23, 24, 25, 26] t) (by kernel_rfl) hT0 l.length (fun j g T => j ≤ l.length ∧ g 5 = .v (.int .u64 ((j : Nat) : Int)) ∧ (∃ own, g 4 = .sl own ((l.take j).map encP) ∧ (own = .full ∨ ∃ r, own = .row r ∧ S.next ≤ r ∧ T.ob r = some (.row 79 j))) ∧ RAt k L (i + (numB l.length).length + (flatB (l.take j)).length) T ∧ RFr k S T) ⟨by omega, rfl, ⟨.full, rfl, .inl rfl⟩, by simpa [flatB] using h0, hF0⟩ ?_
  rintro j g T hT hg ⟨le, q5, ⟨own, q4, hown⟩, hRT, hF⟩
  have q0 := hg 0 rfl
  have q3 := hg 3 rfl
  simp (disch := first | decide | omega | (simp only [nx]; first | done | omega)) only [go_sem] at q0 q3
  clear hg
  have hkT : k < T.next := Nat.lt_of_lt_of_le hk hF.next
  by_cases hlt : j < l.length
  · have b1 : decide ((j : Int) < (l.length : Int)) = true := by simp; omega
    have w1 : IntKind.u64.wrap ((j : Int) + 1) = ((j + 1 : Nat) : Int) := wrap_u64 (j + 1) (by unfold IsU64; omega)
    (simp (disch := first | decide | omega | (simp only [nx]; first | done | omega)) only [go_sem, q0, q3, q4, q5, b1]; (repeat with_reducible refine aI ?_))
    refine (err_r hRT).mono ?_
    rintro _ T1 ⟨rfl, rfl⟩
    (simp (disch := first | decide | omega | (simp only [nx]; first | done | omega)) only [go_sem, q0, q3, q4, q5, b1]; (repeat with_reducible refine aI ?_))
    have hsp := flatB_split hlt
    have hln := congrArg List.length hsp
    simp only [List.length_append] at hln
    refine (step_r l[j] hkT hRT hL (by omega) (drop_place hd hlt) (hfine _ (List.getElem_mem hlt)) (hu _ (List.getElem_mem hlt))).wf.mono ?_
    rintro _ T2 ⟨⟨rfl, h2, hF2⟩, hT2⟩
    (simp (disch := first | decide | omega | (simp only [nx]; first | done | omega)) only [go_sem, q4]; (repeat with_reducible refine aI ?_))
    refine dapp_steps (a := l.take j) (b := [l[j]]) (own2 := .full) ?_ (by rw [List.length_take]; simp; omega) ?_
    · rcases hown with h | ⟨r, h, hr1, hr2⟩
      · exact .inl h
      · refine .inr ⟨r, h, ?_⟩
        rw [List.length_take, Nat.min_eq_left le]
        exact hF2.ob _ _ (by omega) hr2
    (simp (disch := first | decide | omega | (simp only [nx]; first | done | omega)) only [go_sem, q5, w1]; (repeat with_reducible refine aI ?_))
    have hjl : (l.take j).length = j := by rw [List.length_take]; omega
    have hF2' := hF2.next
    have hFn := hF.next
    have hob : ∀ m, m < T2.next → (∀ r, own = .row r → m ≠ r) → (T2.grow own 79 ((l.take j).length + 1)).ob m = T2.ob m := fun m hm hr => grow_old hm hr
    have hro : ∀ m, m < S.next → ∀ r, own = .row r → m ≠ r := fun m hm r e => by
      rcases hown with h | ⟨r', h, hr1, _⟩
      · rw [h] at e; cases e
      · rw [h] at e; injection e with e; omega
    refine ⟨hlt, _, fun _ _ h => h, by omega, by (first | (simp (disch := first | decide | omega | (simp only [nx]; first | done | omega)) only [go_sem]; first | done | rfl) | rfl), ⟨.row T2.next, ?_, .inr ⟨T2.next, rfl, by omega, ?_⟩⟩, RAt.obk (hob k (by omega) (hro k hk)) h2 ?_, ⟨?_, fun m o hm e => ?_⟩⟩
    · rw [List.take_succ_eq_append_getElem hlt]
      (first | (simp (disch := first | decide | omega | (simp only [nx]; first | done | omega)) only [go_sem]; first | done | rfl) | rfl)
    · rw [← hjl, grow_new]; simp
    · rw [flatB_succ hlt, List.length_append]; omega
    · show S.next ≤ (T2.grow own _ _).next
      rw [grow_next]; omega
    · have := hS.lt e
      rw [show (St.mk (T2.grow own 79 ((l.take j).length + 1)).next (T2.grow own 79 ((l.take j).length + 1)).ob).ob m = T2.ob m from hob m (by omega) (hro m this)]
      exact hF2.ob m o hm (hF.ob m o hm e)
  · have b1 : decide ((j : Int) < (l.length : Int)) = false := by simp; omega
    (simp (disch := first | decide | omega | (simp only [nx]; first | done | omega)) only [go_sem, q0, q3, q4, q5, b1]; (repeat with_reducible refine aI ?_))
    refine (err_r hRT).mono ?_
    rintro _ T1 ⟨rfl, rfl⟩
    (simp (disch := first | decide | omega | (simp only [nx]; first | done | omega)) only [go_sem, q0, q3, q4, q5, b1]; (repeat with_reducible refine aI ?_))
    rw [List.take_of_length_le (by omega)] at hRT ⊢
    exact ⟨⟨_, rfl⟩, hRT.obk rfl (by omega), hF⟩
end Go.Proofs.YtjjhjhjphhpeiaaGreatDoor

namespace Go.Proofs.YtjjhjhjphhpeiaaGreatDoor
open Go.RowKit
theorem bin_quo {P : Program} {t : TypeId} {x y : Operand} (k : IntKind) (a b : Int) (hb : b ≠ 0) : dbin P .quo t x y (.v (.int k a)) (.v (.int k b)) = some (True, .v (.int k (k.wrap (a.tdiv b)))) := by
  simp [dbin, eqGuard, binOp, Op.intDiv, pureRun_bind, pureRun_pure, hb]
theorem dapp_bytes2 {S : St} {ty : TypeId} {own own2 : Own} {bs xs : List UInt8} {K : D → St → Prop} (h : own = .full ∨ ∃ g, own = .row g ∧ S.ob g = some (.row 5 bs.length)) (hl : bs.length + xs.length ≤ 1099511627776)
    (k : K (.sl (.row S.next) ((bs ++ xs).map bD)) (S.grow own 5 (bs.length + xs.length))) : dapp Tryz.prog S 53 53 ty (.sl own (bs.map bD)) (.sl own2 (xs.map bD)) K := by
  refine dapp_row ?_
  have he : elT Tryz.prog 53 = some 5 := by kernel_rfl
  have hb : bytesOf Tryz.prog 5 = 1 := by kernel_rfl
  have hz : zeroT Tryz.prog 5 = true := by kernel_rfl
  simp only [dappend, he, hz, hb, List.length_map, ← List.map_append, true_and, Option.isSome_some]
  refine ⟨wd_bD bs, wd_bD xs, ?_, by omega, by omega, k⟩
  rcases h with rfl | ⟨g, rfl, h⟩
  · trivial
  · exact h
def NewB (S T : St) (d : D) (bs : List UInt8) : Prop := ∃ own, d = .sl own (bs.map bD) ∧ (own = .full ∨ ∃ g, own = .row g ∧ S.next ≤ g ∧ T.ob g = some (.row 5 bs.length)) ∧ S.next ≤ T.next ∧ ∀ j o, S.ob j = some o → T.ob j = some o
theorem NewB.grow {S T : St} {own own2 : Own} {bs xs : List UInt8} (hS : S.WF) (h : own = .full ∨ ∃ g, own = .row g ∧ S.next ≤ g ∧ T.ob g = some (.row 5 bs.length)) (hn : S.next ≤ T.next) (hk : ∀ j o, S.ob j = some o → T.ob j = some o) : NewB S (T.grow own 5 (bs.length + xs.length)) (.sl (.row T.next) ((bs ++ xs).map bD)) (bs ++ xs) := by
  refine ⟨_, rfl, .inr ⟨T.next, rfl, hn, by rw [grow_new, List.length_append]⟩, by rw [grow_next]; omega, fun j o e => ?_⟩
  have := hS.lt e
  rw [grow_old (by omega) (fun r e2 => ?_), hk j o e]
  rcases h with h | ⟨g, h, hg, _⟩
  · rw [h] at e2; cases e2
  · rw [h] at e2; injection e2 with e2; omega
set_option maxRecDepth 200000 in
set_option maxHeartbeats 8000000 in
theorem refNum_w (m : Nat) : ∀ (n : Nat) (S : St), IsU64 n → n < m → DCalls Tryz.prog 57 [.v (.int .u64 (n : Int))] S fun d T => NewB S T d (numB n) := by
  induction m with
  | zero => intro n S _ h; omega
  | succ m ih =>
    intro n S hn hm
    refine dcalls_inline mixed Tryz.func57 rfl (fun _ _ => by kernel_rfl) (rs := [.tmp 2]) rfl (by kernel_rfl) (fun hS => ?_)
    by_cases h : n < 128
    · have b1 : decide ((n : Int) < 128) = true := by simp; omega
      have w8 : IntKind.u8.wrap (n : Int) = (n : Int) := by rw [wrap_u8]; omega
      (simp (disch := first | decide | omega | (simp only [nx]; first | done | omega)) only [go_sem, b1, w8]; (repeat with_reducible refine aI ?_))
      refine ⟨.full, ?_, .inl rfl, Nat.le_refl _, fun _ _ h => h⟩
      rw [numB_lt n h, ← bD1 n (by omega)]
    · have b1 : decide ((n : Int) < 128) = false := by simp; omega
      have e1 : (n : Int).tmod 128 = ((n % 128 : Nat) : Int) := rfl
      have e2 : (n : Int).tdiv 128 = ((n / 128 : Nat) : Int) := rfl
      have w8 : IntKind.u8.wrap ((n % 128 : Nat) : Int) = ((n % 128 : Nat) : Int) := by rw [wrap_u8]; omega
      have wa : IntKind.u8.wrap (((n % 128 : Nat) : Int) + 128) = ((n % 128 + 128 : Nat) : Int) := by
        rw [show ((n % 128 : Nat) : Int) + 128 = ((n % 128 + 128 : Nat) : Int) from by push_cast; rfl, wrap_u8]; omega
      have wq : IntKind.u64.wrap ((n / 128 : Nat) : Int) = ((n / 128 : Nat) : Int) := wrap_u64 _ (by unfold IsU64 at *; omega)
      (simp (disch := first | decide | omega | (simp only [nx]; first | done | omega)) only [go_sem, b1, bin_rem, bin_quo, e1, e2, w8, wa, wq]; (repeat with_reducible refine aI ?_))
      refine (ih (n / 128) S (by unfold IsU64 at *; omega) (by omega)).mono ?_
      rintro _ T ⟨own, rfl, ho, hT1, hT2⟩
      (simp (disch := first | decide | omega | (simp only [nx]; first | done | omega)) only [go_sem]; (repeat with_reducible refine aI ?_))
      rw [bD1 (n % 128 + 128) (by omega)]
      have hln := numB_length_le (n / 128) (by unfold IsU64 at *; omega)
      refine dapp_bytes2 (.inl rfl) (by simp only [List.length_cons, List.length_nil]; omega) ?_
      (simp (disch := first | decide | omega | (simp only [nx]; first | done | omega)) only [go_sem]; (repeat with_reducible refine aI ?_))
      rw [numB_ge n h]
      exact NewB.grow (own := .full) (own2 := .full) (bs := [b8 (n % 128 + 128)]) (xs := numB (n / 128)) hS (.inl rfl) hT1 hT2
set_option maxRecDepth 200000 in
set_option maxHeartbeats 8000000 in
theorem refByt_w {S : St} (own : Own) (xs : List UInt8) (hx : xs.length ≤ 1000000) : DCalls Tryz.prog 92 [.sl own (xs.map bD)] S fun d T => NewB S T d (numB xs.length ++ xs) := by
  refine dcalls_inline mixed Tryz.func92 rfl (fun _ _ => by kernel_rfl) (rs := [.tmp 2]) rfl (by kernel_rfl) (fun hS => ?_)
  have hu : IsU64 xs.length := by unfold IsU64; omega
  (simp (disch := first | decide | omega | (simp only [nx]; first | done | omega)) only [go_sem, wrap_u64 xs.length hu]; (repeat with_reducible refine aI ?_))
  refine (refNum_w _ xs.length S hu (Nat.lt_succ_self _)).mono ?_
  rintro _ T ⟨own, rfl, ho, hT1, hT2⟩
  (simp (disch := first | decide | omega | (simp only [nx]; first | done | omega)) only [go_sem]; (repeat with_reducible refine aI ?_))
  have hln := numB_length_le xs.length hu
  refine dapp_bytes2 (ho.imp id fun ⟨g, h1, _, h2⟩ => ⟨g, h1, h2⟩) (by omega) ?_
  (simp (disch := first | decide | omega | (simp only [nx]; first | done | omega)) only [go_sem]; (repeat with_reducible refine aI ?_))
  exact NewB.grow (own2 := .full) hS ho hT1 hT2
theorem pathB_eq {l : List DStp} (h : l.length < 128) : pathB l = [b8 l.length] ++ flatB l := by rw [pathB, numB_lt _ h]
set_option maxRecDepth 200000 in
set_option maxHeartbeats 8000000 in
theorem refPathB_w {S : St} (own : Own) (l : List DStp) (hl : l.length ≤ 40) (hs : ∀ p ∈ l, p.1.length ≤ 100 ∧ IsU64 p.2) : DCalls Tryz.prog 56 [.sl own (l.map encP)] S fun d T => NewB S T d (pathB l) := by
  refine dcalls_inline mixed Tryz.func56 rfl (fun _ _ => by kernel_rfl) (rs := [.tmp 2]) rfl (by kernel_rfl) (fun hS => ?_)
  have w8 : IntKind.u8.wrap (l.length : Int) = (l.length : Int) := by rw [wrap_u8]; omega
  (simp (disch := first | decide | omega | (simp only [nx]; first | done | omega)) only [go_sem, w8]; (repeat with_reducible refine aI ?_))
  rw [bD1 l.length (by omega)]
  refine dloop_up (fun t => List.contains [3, 4, 9, 10, 11, 12, 13, 14, 15, 16, 17, 18, 19, 20, 21, 22, 23, 24, 25, 26, 27, 28, 29, 30, 31, 32, 33, 34, 35, 36, 37] t) (by kernel_rfl) hS l.length (fun j g T => j ≤ l.length ∧ g 4 = .v (.int .i64 ((j : Nat) : Int)) ∧ NewB S T (g 3) ([b8 l.length] ++ flatB (l.take j))) ⟨by omega, rfl, ⟨.full, rfl, .inl rfl, Nat.le_refl _, fun _ _ h => h⟩⟩ ?_
  rintro j g T hT hg ⟨le, q4, ⟨own3, q3, ho, hT1, hT2⟩⟩
  have q0 := hg 0 rfl
  simp (disch := first | decide | omega | (simp only [nx]; first | done | omega)) only [go_sem] at q0
  clear hg
  by_cases hlt : j < l.length
  · have b1 : decide ((j : Int) < (l.length : Int)) = true := by simp; omega
    have w1 : IntKind.i64.wrap ((j : Int) + 1) = ((j + 1 : Nat) : Int) := IntWalk.i64_in _ ⟨by omega, by omega⟩
    have hp := hs l[j] (List.getElem_mem hlt)
    have hfl : (flatB (l.take j)).length ≤ 4800 := by
      have h1 := flatB_len (l.take j) fun p hp => hs p (List.mem_of_mem_take hp)
      have h2 : (l.take j).length ≤ 40 := by rw [List.length_take]; omega
      omega
    have hsb : (strB l[j].1).data.toList = l[j].1 := by simp [strB]
    (simp (disch := first | decide | omega | (simp only [nx]; first | done | omega)) only [go_sem, q0, q3, q4, b1, encP, hsb]; (repeat with_reducible refine aI ?_))
    refine (refByt_w .no l[j].1 (by omega)).wf.mono ?_
    rintro _ T1 ⟨⟨own1, rfl, ho1, hT11, hT12⟩, hW1⟩
    (simp (disch := first | decide | omega | (simp only [nx]; first | done | omega)) only [go_sem, q3]; (repeat with_reducible refine aI ?_))
    have hn1 := numB_length_le l[j].1.length (by omega)
    have hn2 := numB_length_le l[j].2 hp.2
    have ho' : own3 = .full ∨ ∃ g, own3 = .row g ∧ S.next ≤ g ∧ T1.ob g = some (.row 5 ([b8 l.length] ++ flatB (l.take j)).length) := ho.imp id fun ⟨g, h1, h2, h3⟩ => ⟨g, h1, h2, hT12 _ _ h3⟩
    refine dapp_bytes2 (bs := [b8 l.length] ++ flatB (l.take j)) (xs := numB l[j].1.length ++ l[j].1) (ho'.imp id fun ⟨g, h1, _, h2⟩ => ⟨g, h1, h2⟩) (by simp only [List.length_append, List.length_cons, List.length_nil]; omega) ?_
    have hN := NewB.grow (own := own3) (own2 := .full) (T := T1) (bs := [b8 l.length] ++ flatB (l.take j)) (xs := numB l[j].1.length ++ l[j].1) hS ho' (Nat.le_trans hT1 hT11) (fun j o e => hT12 _ _ (hT2 _ _ e))
    obtain ⟨own4, e4, ho4, hT3, hT4⟩ := hN
    rw [e4]
    have hfs := flatB_succ hlt
    have hsl : stepB l[j] = (numB l[j].1.length ++ l[j].1) ++ (if l[j].1 = [] then numB l[j].2 else []) := rfl
    have hXl : (([b8 l.length] ++ flatB (l.take j)) ++ (numB l[j].1.length ++ l[j].1)).length ≤ 5000 := by simp only [List.length_append, List.length_cons, List.length_nil]; omega
    generalize hX : (([b8 l.length] ++ flatB (l.take j)) ++ (numB l[j].1.length ++ l[j].1)) = X at *
    generalize hTT : T1.grow own3 5 (([b8 l.length] ++ flatB (l.take j)).length + (numB l[j].1.length ++ l[j].1).length) = T2 at *
    by_cases h0 : l[j].1 = []
    · have b2 : (l[j].1 == []) = true := by simp [h0]
      (simp (disch := first | decide | omega | (simp only [nx]; first | done | omega)) only [go_sem, q0, q4, b2, encP]; (repeat with_reducible refine aI ?_))
      refine (refNum_w _ l[j].2 T2 hp.2 (Nat.lt_succ_self _)).wf.mono ?_
      rintro _ T3 ⟨⟨own5, rfl, ho5, hT5, hT6⟩, hW3⟩
      (simp (disch := first | decide | omega | (simp only [nx]; first | done | omega)) only [go_sem, q4, w1]; (repeat with_reducible refine aI ?_))
      have ho4' : own4 = .full ∨ ∃ g, own4 = .row g ∧ S.next ≤ g ∧ T3.ob g = some (.row 5 X.length) := ho4.imp id fun ⟨g, h1, h2, h3⟩ => ⟨g, h1, h2, hT6 _ _ h3⟩
      refine dapp_bytes2 (bs := X) (xs := numB l[j].2) (ho4'.imp id fun ⟨g, h1, _, h2⟩ => ⟨g, h1, h2⟩) (by omega) ?_
      have hN := NewB.grow (own := own4) (own2 := .full) (T := T3) (bs := X) (xs := numB l[j].2) hS ho4' (Nat.le_trans hT3 hT5) (fun j o e => hT6 _ _ (hT4 _ _ e))
      (simp (disch := first | decide | omega | (simp only [nx]; first | done | omega)) only [go_sem, q4, w1]; (repeat with_reducible refine aI ?_))
      refine ⟨hlt, _, fun _ _ h => h, by omega, by (first | (simp (disch := first | decide | omega | (simp only [nx]; first | done | omega)) only [go_sem]; first | done | rfl) | rfl), ?_⟩
      have hfin : b8 l.length :: flatB (l.take (j + 1)) = X ++ numB l[j].2 := by rw [hfs, hsl, if_pos h0, ← hX]; simp
      rw [hfin]
      obtain ⟨o6, e6, h61, h62, h63⟩ := hN
      exact ⟨o6, by rw [← e6]; (first | (simp (disch := first | decide | omega | (simp only [nx]; first | done | omega)) only [go_sem]; first | done | rfl) | rfl), h61, h62, h63⟩
    · have b2 : (l[j].1 == []) = false := by simp [h0]
      (simp (disch := first | decide | omega | (simp only [nx]; first | done | omega)) only [go_sem, q0, q4, b2, encP, w1]; (repeat with_reducible refine aI ?_))
      refine ⟨hlt, _, fun _ _ h => h, by omega, by (first | (simp (disch := first | decide | omega | (simp only [nx]; first | done | omega)) only [go_sem]; first | done | rfl) | rfl), ?_⟩
      have hfin : b8 l.length :: flatB (l.take (j + 1)) = X := by rw [hfs, hsl, if_neg h0, ← hX]; simp
      rw [hfin]
      exact ⟨own4, by (first | (simp (disch := first | decide | omega | (simp only [nx]; first | done | omega)) only [go_sem]; first | done | rfl) | rfl), ho4, hT3, hT4⟩
  · have b1 : decide ((j : Int) < (l.length : Int)) = false := by simp; omega
    (simp (disch := first | decide | omega | (simp only [nx]; first | done | omega)) only [go_sem, q0, q3, q4, b1]; (repeat with_reducible refine aI ?_))
    rw [pathB_eq (by omega)]
    rw [List.take_of_length_le (by omega)] at *
    exact ⟨_, rfl, ho, hT1, hT2⟩
end Go.Proofs.YtjjhjhjphhpeiaaGreatDoor

namespace Go.Proofs.YtjjhjhjphhpeiaaGreatDoor
open Go.RowKit
theorem grow_hit {S : St} {own : Own} {e : TypeId} {n : Nat} : (S.grow own e n).ob S.next = some (.row e n) := by
  cases own <;> simp [St.grow, St.leave, St.add, St.drop]
theorem grow_skip {S : St} {own : Own} {e : TypeId} {n j : Nat} (h1 : j ≠ S.next) (h2 : ∀ g, own = .row g → j ≠ g) : (S.grow own e n).ob j = S.ob j := by
  cases own with
  | row g => simp [St.grow, St.leave, St.add, St.drop, h1, h2 g rfl]
  | no => simp [St.grow, St.leave, St.add, h1]
  | full => simp [St.grow, St.leave, St.add, h1]
def RowAt (lo : Nat) (own : Own) (n : Nat) (e : TypeId) (T : St) : Prop := (own = .full ∧ n = 0) ∨ ∃ g, own = .row g ∧ lo ≤ g ∧ T.ob g = some (.row e n)
theorem RowAt.ne {lo n j : Nat} {own : Own} {e : TypeId} {T : St} (h : RowAt lo own n e T) (hj : j < lo ∨ ∃ t cs, T.ob j = some (.box t cs)) : ∀ g, own = .row g → j ≠ g := fun g hg => by
  rcases h with ⟨h, _⟩ | ⟨g', h, h1, h2⟩
  · rw [h] at hg; cases hg
  · rw [h] at hg; injection hg with hg; subst hg
    rintro rfl
    rcases hj with hj | ⟨t, cs, hj⟩
    · omega
    · rw [hj] at h2; cases h2
theorem RowAt.lt {lo n : Nat} {own : Own} {e : TypeId} {T : St} (hT : T.WF) (h : RowAt lo own n e T) : ∀ g, own = .row g → g < T.next := fun g hg => by
  rcases h with ⟨h, _⟩ | ⟨g', h, h1, h2⟩
  · rw [h] at hg; cases hg
  · rw [h] at hg; injection hg with hg; subst hg
    exact hT.lt h2
theorem RowAt.keep {lo n : Nat} {own : Own} {e : TypeId} {T X : St} (h : RowAt lo own n e T) (hb : ∀ g, own = .row g → X.ob g = T.ob g) : RowAt lo own n e X := by
  rcases h with h | ⟨g, h, h1, h2⟩
  · exact .inl h
  · exact .inr ⟨g, h, h1, (hb g h).trans h2⟩
theorem dapp_at {P : Program} {S : St} {t ty e : TypeId} {own own2 : Own} {es : List D} {x : D} {lo : Nat} {K : D → St → Prop} (he : elT P t = some e) (hz : zeroT P e = true) (h : RowAt lo own es.length e S) (hw : ∀ d ∈ es, d.width = szOf P e) (hx : x.width = szOf P e)
    (hb : es.length + 1 ≤ 140737488355328) (hb2 : (es.length + 1) * bytesOf P e ≤ 140737488355328) (k : K (.sl (.row S.next) (es ++ [x])) (S.grow own e (es.length + 1))) : dapp P S t t ty (.sl own es) (.sl own2 [x]) K := by
  refine dapp_row ?_
  simp only [dappend, he, hz, true_and, Option.isSome_some, List.length_cons, List.length_nil]
  refine ⟨hw, fun d hd => by rw [List.mem_singleton] at hd; subst hd; exact hx, ?_, hb, hb2, k⟩
  rcases h with ⟨rfl, h⟩ | ⟨g, rfl, _, h⟩
  · trivial
  · exact h
structure Two (o lo : Nat) (e1 e2 : TypeId) (f : D → D → List D) (L1 L2 : List D) (o1 o2 : Own) (T : St) : Prop where
  box : T.ob o = some (.box 29 (f (.sl o1 L1) (.sl o2 L2)))
  r1 : RowAt lo o1 L1.length e1 T
  r2 : RowAt lo o2 L2.length e2 T
theorem Two.apart {o lo : Nat} {e1 e2 : TypeId} {f : D → D → List D} {L1 L2 : List D} {o1 o2 : Own} {T : St} (h : Two o lo e1 e2 f L1 L2 o1 o2 T) (hne : e1 ≠ e2) : ∀ g g', o1 = .row g → o2 = .row g' → g ≠ g' := fun g g' h1 h2 e => by
  subst e
  rcases h.r1 with ⟨e1', _⟩ | ⟨a, e1', _, e3⟩
  · rw [e1'] at h1; cases h1
  · rw [e1'] at h1; injection h1 with h1; subst h1
    rcases h.r2 with ⟨f1, _⟩ | ⟨b, f1, _, f3⟩
    · rw [f1] at h2; cases h2
    · rw [f1] at h2; injection h2 with h2; subst h2
      rw [e3] at f3
      injection f3 with f3
      injection f3 with f3 _
      exact hne f3
theorem Two.at1 {o lo : Nat} {e1 e2 : TypeId} {f : D → D → List D} {L1 L2 : List D} {o1 o2 : Own} {T : St} (h : Two o lo e1 e2 f L1 L2 o1 o2 T) (hT : T.WF) {j m : Nat} {ob : Ob} (hj : j < lo) (e : T.ob j = some ob) : (T.grow o1 e1 m).ob j = some ob := by
  have := hT.lt e
  rw [grow_skip (by omega) (h.r1.ne (.inl hj)), e]
theorem Two.row2 {o lo : Nat} {e1 e2 : TypeId} {f : D → D → List D} {L1 L2 : List D} {o1 o2 : Own} {T : St} (h : Two o lo e1 e2 f L1 L2 o1 o2 T) (hT : T.WF) (hne : e1 ≠ e2) {m : Nat} : RowAt lo o2 L2.length e2 (T.grow o1 e1 m) :=
  h.r2.keep fun g hg => by
    have := h.r2.lt hT g hg
    exact grow_skip (by omega) fun g' hg' e => h.apart hne g' g hg' hg e.symm
end Go.Proofs.YtjjhjhjphhpeiaaGreatDoor

namespace Go.Proofs.YtjjhjhjphhpeiaaGreatDoor
open Go.RowKit
theorem twoA_step {o lo : Nat} {e1 e2 : TypeId} {f : D → D → List D} {L1 L2 L1' : List D} {o1 o2 : Own} {T : St} {m1 : Nat} (h : Two o lo e1 e2 f L1 L2 o1 o2 T) (hT : T.WF) (hlo : lo ≤ T.next) (ho : o < lo) (hne : e1 ≠ e2) (hm1 : m1 = L1'.length) :
    Two o lo e1 e2 f L1' L2 (.row T.next) o2 ((T.grow o1 e1 m1).set o (.box 29 (f (.sl (.row T.next) L1') (.sl o2 L2)))) ∧
    Fz (fun j => j ≠ o ∧ j < lo) T ((T.grow o1 e1 m1).set o (.box 29 (f (.sl (.row T.next) L1') (.sl o2 L2)))) ∧
    ((T.grow o1 e1 m1).set o (.box 29 (f (.sl (.row T.next) L1') (.sl o2 L2)))).WF ∧
    ((T.grow o1 e1 m1).set o (.box 29 (f (.sl (.row T.next) L1') (.sl o2 L2)))).next = T.next + 1 := by
  subst hm1
  have hol := hT.lt h.box
  have hn1 : (T.grow o1 e1 L1'.length).next = T.next + 1 := grow_next _ _ _ _
  refine ⟨⟨by simp [St.set], .inr ⟨T.next, rfl, hlo, ?_⟩, (h.row2 hT hne (m := L1'.length)).keep fun g hg => ?_⟩, ⟨?_, fun j o' hj e => ?_⟩, ?_, hn1⟩
  · simp only [St.set]
    rw [if_neg (by omega), grow_hit]
  · have := h.r2.ne (j := o) (.inl ho) g hg
    simp only [St.set]
    rw [if_neg (fun e => this e.symm)]
  · show T.next ≤ (T.grow o1 e1 L1'.length).next
    omega
  · have := hT.lt e
    simp only [St.set]
    rw [if_neg hj.1, grow_skip (by omega) (h.r1.ne (.inl hj.2)), e]
  · exact (hT.grow _ _ _).set (by omega) _
theorem twoB_step {o lo : Nat} {e1 e2 : TypeId} {f : D → D → List D} {L1 L2 L2' : List D} {o1 o2 : Own} {T : St} {m2 : Nat} (h : Two o lo e1 e2 f L1 L2 o1 o2 T) (hT : T.WF) (hlo : lo ≤ T.next) (ho : o < lo) (hne : e1 ≠ e2) (hm2 : m2 = L2'.length) :
    Two o lo e1 e2 f L1 L2' o1 (.row T.next) ((T.grow o2 e2 m2).set o (.box 29 (f (.sl o1 L1) (.sl (.row T.next) L2')))) ∧
    Fz (fun j => j ≠ o ∧ j < lo) T ((T.grow o2 e2 m2).set o (.box 29 (f (.sl o1 L1) (.sl (.row T.next) L2')))) ∧
    ((T.grow o2 e2 m2).set o (.box 29 (f (.sl o1 L1) (.sl (.row T.next) L2')))).WF ∧
    ((T.grow o2 e2 m2).set o (.box 29 (f (.sl o1 L1) (.sl (.row T.next) L2')))).next = T.next + 1 := by
  subst hm2
  have hol := hT.lt h.box
  have hn1 : (T.grow o2 e2 L2'.length).next = T.next + 1 := grow_next _ _ _ _
  refine ⟨⟨by simp [St.set], h.r1.keep fun g hg => ?_, .inr ⟨T.next, rfl, hlo, ?_⟩⟩, ⟨?_, fun j o' hj e => ?_⟩, ?_, hn1⟩
  · have h1 := h.r1.ne (j := o) (.inl ho) g hg
    have h2 := h.r1.lt hT g hg
    simp only [St.set]
    rw [if_neg (fun e => h1 e.symm), grow_skip (by omega) fun g' hg' e => h.apart hne g g' hg hg' e]
  · simp only [St.set]
    rw [if_neg (by omega), grow_hit]
  · show T.next ≤ (T.grow o2 e2 L2'.length).next
    omega
  · have := hT.lt e
    simp only [St.set]
    rw [if_neg hj.1, grow_skip (by omega) (h.r2.ne (.inl hj.2)), e]
  · exact (hT.grow _ _ _).set (by omega) _
theorem RowAt.rfr {lo n k : Nat} {own : Own} {e : TypeId} {T T' : St} (h : RowAt lo own n e T) (hb : ∃ t cs, T.ob k = some (.box t cs)) (hf : RFr k T T') : RowAt lo own n e T' := by
  rcases h with h | ⟨g, h, h1, h2⟩
  · exact .inl h
  · refine .inr ⟨g, h, h1, hf.ob g _ (fun hg => ?_) h2⟩
    obtain ⟨t, cs, hb⟩ := hb
    rw [hg, hb] at h2; cases h2
theorem Two.rfr {o lo k : Nat} {e1 e2 : TypeId} {f : D → D → List D} {L1 L2 : List D} {o1 o2 : Own} {T T' : St} (h : Two o lo e1 e2 f L1 L2 o1 o2 T) (hk : o ≠ k) (hb : ∃ t cs, T.ob k = some (.box t cs)) (hf : RFr k T T') : Two o lo e1 e2 f L1 L2 o1 o2 T' :=
  ⟨hf.box o _ _ hk h.box, h.r1.rfr hb hf, h.r2.rfr hb hf⟩
theorem RAt.isbox {k : Nat} {l : List UInt8} {i : Nat} {T : St} (h : RAt k l i T) : ∃ t cs, T.ob k = some (.box t cs) := by obtain ⟨own, h⟩ := h; exact ⟨_, _, h⟩
theorem RAt.fz {k lo o i : Nat} {l : List UInt8} {S T : St} (h : RAt k l i S) (hf : Fz (fun j => j ≠ o ∧ j < lo) S T) (hk : k ≠ o) (hl : k < lo) : RAt k l i T := by
  obtain ⟨own, h⟩ := h
  exact ⟨own, hf.ob _ _ ⟨hk, hl⟩ h⟩
theorem RFr.fz {k lo o : Nat} {S T X : St} (h : RFr k S T) (hS : S.WF) (hf : Fz (fun j => j ≠ o ∧ j < lo) T X) (ho : S.next ≤ o) (hl : S.next ≤ lo) : RFr k S X :=
  ⟨Nat.le_trans h.next hf.next, fun j ob hj e => by have := hS.lt e; exact hf.ob j ob ⟨by omega, by omega⟩ (h.ob j ob hj e)⟩
end Go.Proofs.YtjjhjhjphhpeiaaGreatDoor

namespace Go.Proofs.YtjjhjhjphhpeiaaGreatDoor
open Go.RowKit
def outL (d1 d2 : D) : List D := [.v (.int .i64 6), .v (.int .i64 0), .v (.string ⟨#[]⟩), .sl .full [], d1, d2]
end Go.Proofs.YtjjhjhjphhpeiaaGreatDoor

namespace Go.Proofs.YtjjhjhjphhpeiaaGreatDoor
open Go.RowKit
theorem cv_u8i64 (n : Int) : pureRun Tryz.prog (convert 5 3 (.int .u8 n)) = some (.int .i64 (IntKind.i64.wrap n)) := by kernel_rfl
def recL (d1 d2 : D) : List D := [.v (.int .i64 5), .v (.int .i64 0), .v (.string ⟨#[]⟩), d1, .sl .full [], d2]
theorem RV.hereT {v : DVal} (h : RV v) : hereV v = true := by
  obtain ⟨m, h1, h2⟩ := h
  obtain ⟨m, rfl⟩ : ∃ n, m = n + 1 := ⟨m - 1, by have := v.depth_pos; omega⟩
  rw [soundV, Bool.and_eq_true] at h2
  exact h2.1
theorem vpart_split (m : Nat) (v : DVal) (j : Nat) : ∀ d, ∃ X, vpartB m v (j + d) = vpartB m v j ++ X
  | 0 => ⟨[], by simp⟩
  | d + 1 => by
    obtain ⟨X, h⟩ := vpart_split m v j d
    exact ⟨X ++ _, by rw [← Nat.add_assoc, vpartB_succ, h, List.append_assoc]⟩
theorem vpart_at {m : Nat} {v : DVal} {j : Nat} {L rest : List UInt8} {i : Nat} (hd : L.drop i = vheadB v ++ vpartB m v v.parts.length ++ rest) (hj : j < v.parts.length) :
    ∃ X, L.drop (i + (vheadB v).length + (vpartB m v j).length) = vkeyB v j ++ (bytesV m v.parts[j] ++ X) := by
  obtain ⟨X, h⟩ := vpart_split m v (j + 1) (v.parts.length - (j + 1))
  rw [show j + 1 + (v.parts.length - (j + 1)) = v.parts.length by omega, vpartB_succ, getD_at hj] at h
  refine ⟨X ++ rest, ?_⟩
  rw [Nat.add_assoc, ← List.drop_drop, hd, h, ← List.length_append]
  simp only [← List.append_assoc]
  rw [List.append_assoc (vheadB v ++ vpartB m v j), List.append_assoc (vheadB v ++ vpartB m v j), List.append_assoc (vheadB v ++ vpartB m v j), List.drop_left]
theorem rise_take {l : List Str} (h : (List.range l.length).all (riseOk l) = true) (h8 : l.length ≤ 8) (j : Nat) : riseV (l.take j) = true := by
  unfold riseV
  rw [Bool.and_eq_true, decide_eq_true_eq, List.length_take]
  refine ⟨List.all_eq_true.2 fun i hi => ?_, by omega⟩
  rw [List.mem_range] at hi
  have h1 := List.all_eq_true.1 h i (List.mem_range.2 (by omega))
  have e1 : (l.take j).getD i [] = l.getD i [] := by
    rw [List.getD_eq_getElem?_getD, List.getD_eq_getElem?_getD, List.getElem?_take_of_lt (by omega)]
  have e2 : (l.take j).getD (i - 1) [] = l.getD (i - 1) [] := by
    rw [List.getD_eq_getElem?_getD, List.getD_eq_getElem?_getD, List.getElem?_take_of_lt (by omega)]
  unfold riseOk at h1 ⊢
  rw [e1, e2]; exact h1
theorem ids_take {l : List Nat} (h : (List.range l.length).all (idOk l) = true) (h12 : l.length ≤ 12) (j : Nat) : idsB (l.take j) = true := by
  unfold idsB
  rw [Bool.and_eq_true, decide_eq_true_eq, List.length_take]
  refine ⟨List.all_eq_true.2 fun i hi => ?_, by omega⟩
  rw [List.mem_range] at hi
  have h1 := List.all_eq_true.1 h i (List.mem_range.2 (by omega))
  have e1 : (l.take j).getD i 0 = l.getD i 0 := by
    rw [List.getD_eq_getElem?_getD, List.getD_eq_getElem?_getD, List.getElem?_take_of_lt (by omega)]
  have e2 : (l.take j).take i = l.take i := by rw [List.take_take, Nat.min_eq_left (by omega)]
  unfold idOk at h1 ⊢
  rw [e1, e2]; exact h1
theorem shape_scalar {v : DVal} (h : hereV v = true) (h5 : v.kind ≠ 5) (h6 : v.kind ≠ 6) : v.names = [] ∧ v.ids = [] ∧ v.parts = [] := by
  obtain ⟨b1, b2, b3, b4⟩ := here_parts h
  unfold bad1 at b1
  unfold bad2 at b2
  exact ⟨List.eq_nil_of_length_eq_zero (by omega), List.eq_nil_of_length_eq_zero (by omega), List.eq_nil_of_length_eq_zero (by omega)⟩
set_option maxRecDepth 200000 in
set_option maxHeartbeats 16000000 in
theorem vread_r (m : Nat) : ∀ (v : DVal) {S : St} {k : Nat} {L rest : List UInt8} {i deep : Nat} (hd : v.depth ≤ m) (hdp : v.depth ≤ deep) (hdp2 : deep ≤ 1000) (hr : RV v) (ho : okV v) (hk : k < S.next) (hR : RAt k L i S) (hL : L.length ≤ 1099511627776) (hi : i ≤ L.length) (hb : L.drop i = bytesV m v ++ rest),
    DCalls Tryz.prog 139 [.loc k 0, .v (.int .i64 (deep : Int))] S fun d T => d = encV v ∧ RAt k L (i + (bytesV m v).length) T ∧ RFr k S T := by
  induction m with
  | zero => intro v S k L rest i deep h; have := v.depth_pos; omega
  | succ m ih =>
    intro v S k L rest i deep hd hdp hdp2 hr ho hk hR hL hi hb
    have hf := hr.facts
    have hh := hr.hereT
    have hp := (okV_eq v).1 ho
    have hkk := hf.kind
    have hdpos := v.depth_pos
    obtain ⟨c1, c2, c3, c4⟩ := here_parts hh
    unfold bad1 at c1
    unfold bad2 at c2
    have hlen := congrArg List.length hb
    rw [List.length_drop, List.length_append] at hlen
    refine DCalls.frz (K := fun d T => d.frz = encV v ∧ RAt k L (i + (bytesV (m + 1) v).length) T ∧ RFr k S T) ?_ (fun d T h => h)
    have hbv : bytesV (m + 1) v = vheadB v ++ vpartB m v v.parts.length := rfl
    rw [hbv] at hb hlen ⊢
    rw [List.length_append] at hlen ⊢
    have hkb : (vkindB v).toNat = v.kind.toNat := by
      unfold vkindB
      rw [UInt8.toNat_ofNat_of_lt' (by show v.kind.toNat < 256; omega)]
    have hkb2 : ((vkindB v).toNat : Int) = v.kind := by rw [hkb]; omega
    refine dcalls_inline mixed Tryz.func139 rfl (fun _ _ => by kernel_rfl) (rs := [.cell 4 29]) rfl (by kernel_rfl) (fun hS => ?_)
    have b0 : ((deep : Int) == 0) = false := by simp; omega
    (simp (disch := first | decide | omega | (simp only [nx]; first | done | omega)) only [go_sem, b0]; (repeat with_reducible refine aI ?_))
    obtain ⟨hb1, hvh⟩ : ∃ X, vheadB v = vkindB v :: X := ⟨_, rfl⟩
    refine (byte_r (c := vkindB v) (rest := hb1 ++ vpartB m v v.parts.length ++ rest) (by show k < S.next + 1; omega) (hR.keep (add_keep hS _)) hL hi (by rw [hb, hvh]; simp)).wf.mono ?_
    rintro _ T0 ⟨⟨rfl, h0, hF0⟩, hT0⟩
    have hn0 : S.next + 1 ≤ T0.next := hF0.next
    have z0 : T0.ob S.next = some (.box 29 [.v (.int .i64 0), .v (.int .i64 0), .v (.string ⟨#[]⟩), .sl .full [], .sl .full [], .sl .full []]) := hF0.box _ _ _ (by omega) add_eq
    have hFS : RFr k S T0 := (RFr.add (RFr.refl k S) hS _).trans hF0
    have wk : IntKind.i64.wrap ((vkindB v).toNat : Int) = v.kind := by rw [hkb2]; exact IntWalk.i64_in _ ⟨by omega, by omega⟩
    (simp (disch := first | decide | omega | (simp only [nx]; first | done | omega)) only [go_sem, bD, cv_u8i64, wk]; (repeat with_reducible refine aI ?_))
    obtain ⟨T1, hT1e⟩ : ∃ T1 : St, T1 = (T0.add (.box 29 [.v (.int .i64 0), .v (.int .i64 0), .v (.string ⟨#[]⟩), .sl .full [], .sl .full [], .sl .full []])).set T0.next (.box 29 [.v (.int .i64 v.kind), .v (.int .i64 0), .v (.string ⟨#[]⟩), .sl .full [], .sl .full [], .sl .full []]) := ⟨_, rfl⟩
    have hT1 : T1.WF := by rw [hT1e]; exact (hT0.add _).set (by show T0.next < T0.next + 1; omega) _
    have hn1 : T1.next = T0.next + 1 := by rw [hT1e]; rfl
    have u5 : T1.ob T0.next = some (.box 29 [.v (.int .i64 v.kind), .v (.int .i64 0), .v (.string ⟨#[]⟩), .sl .full [], .sl .full [], .sl .full []]) := by rw [hT1e]; exact set_eq
    have hkeep : ∀ j o, T0.ob j = some o → T1.ob j = some o := fun j o e => by
      have := hT0.lt e
      rw [hT1e, set_ne (by omega), add_ne this, e]
    have z1 := hkeep _ _ z0
    have h1 := h0.keep hkeep
    have hF1 : RFr k S T1 := hFS.trans ⟨by omega, fun j o _ e => hkeep j o e⟩
    have hkT : k < T1.next := by have := hFS.next; omega
    have hkn : k ≠ T0.next := by have := hFS.next; omega
    rw [← hT1e]
    clear hT1e hkeep z0 h0
    refine (err_r h1).mono ?_
    rintro _ _ ⟨rfl, he⟩
    rw [he]
    clear he
    have hdr1 : L.drop (i + 1) = hb1 ++ vpartB m v v.parts.length ++ rest := by rw [← List.drop_drop, hb, hvh]; simp
    have hi1 : i + 1 ≤ L.length := by rw [hvh, List.length_cons] at hlen; omega
    by_cases e5 : v.kind = 5
    · have k5 : (v.kind == 5) = true := by simp [e5]
      have k6 : (v.kind == 6) = false := by simp [e5]
      have k1 : (v.kind == 1) = false := by simp [e5]
      have k2 : (v.kind == 2) = false := by simp [e5]
      have k3 : (v.kind == 3) = false := by simp [e5]
      have k4 : (v.kind == 4) = false := by simp [e5]
      have hb1e : hb1 = numB v.parts.length := by
        have := hvh
        unfold vheadB at this
        rw [if_neg (by omega), if_neg (by omega), if_neg (by omega)] at this
        injection this with _ this
        exact this.symm
      have hs0 : v.s = [] := List.eq_nil_of_length_eq_zero (by omega)
      have hn00 : v.n = 0 := by omega
      have hot : v.ids = [] := List.eq_nil_of_length_eq_zero (by omega)
      have hln : v.names.length = v.parts.length := by omega
      (simp (disch := first | decide | omega | (simp only [nx]; first | done | omega)) only [go_sem, z1, u5, k1, k2, k3, k4, k5, k6]; (repeat with_reducible refine aI ?_))
      refine (count_r (mx := 8) (n := v.parts.length) (rest := vpartB m v v.parts.length ++ rest) hkT h1 hL hi1 (by rw [hdr1, hb1e, List.append_assoc]) (by omega) (by omega)).wf.mono ?_
      rintro _ T2 ⟨⟨rfl, h2, hF2⟩, hT2⟩
      have u2 := hF2.box _ _ _ (by omega) u5
      have z2 := hF2.box _ _ _ (by omega) z1
      have hn2 := hF2.next
      have hFS2 := hF1.trans hF2
      rw [e5] at u2
      (simp (disch := first | decide | omega | (simp only [nx]; first | done | omega)) only [go_sem, u2]; (repeat with_reducible refine aI ?_))
      obtain ⟨lo, hlo⟩ : ∃ lo, lo = T0.next + 1 := ⟨_, rfl⟩
      have heA : elT Tryz.prog 22 = some 9 := by kernel_rfl
      have heV : elT Tryz.prog 27 = some 29 := by kernel_rfl
      have hzA : szOf Tryz.prog 9 = 1 := by kernel_rfl
      have hzV : szOf Tryz.prog 29 = 6 := by kernel_rfl
      have hbA : bytesOf Tryz.prog 9 = 16 := by kernel_rfl
      have hbV : bytesOf Tryz.prog 29 = 104 := by kernel_rfl
      have hne : (9 : TypeId) ≠ 29 := by decide
      have hhl : (vheadB v).length = 1 + (numB v.parts.length).length := by rw [hvh, hb1e, List.length_cons]; omega
      refine dloop_up (fun t => List.contains [52, 53, 54, 55, 56, 57, 58, 59, 60, 61, 62, 63, 64, 65, 66, 67, 68, 69, 70, 71, 72, 73, 74, 75, 76, 77, 78, 79, 80, 81, 82, 83, 84, 85, 86, 87, 88, 89, 90, 91, 92] t) (by kernel_rfl) (by exact hT2) v.parts.length (fun j g T => j ≤ v.parts.length ∧ g 52 = .v (.int .i64 ((j : Nat) : Int)) ∧ (∃ o1 o2, Two T0.next lo 9 29 recL ((v.names.take j).map strD) ((v.parts.take j).map encV) o1 o2 T) ∧ RAt k L (i + (vheadB v).length + (vpartB m v j).length) T ∧ RFr k S T ∧ T.ob S.next = some (.box 29 [.v (.int .i64 0), .v (.int .i64 0), .v (.string ⟨#[]⟩), .sl .full [], .sl .full [], .sl .full []]) ∧ lo ≤ T.next)
        ⟨by omega, by (first | (simp (disch := first | decide | omega | (simp only [nx]; first | done | omega)) only [go_sem]; first | done | rfl) | rfl), ⟨.full, .full, ⟨u2, .inl ⟨rfl, rfl⟩, .inl ⟨rfl, rfl⟩⟩⟩, h2.obk rfl (by rw [hhl]; simp [vpartB]; omega), hFS2, z2, by omega⟩ ?_
      rintro j g T hT hg ⟨le, q52, ⟨o1, o2, hTw⟩, hRj, hFj, zj, hlj⟩
      (have q0 := hg 0 rfl; have q1 := hg 1 rfl; have q4 := hg 4 rfl; have q5 := hg 5 rfl; have q51 := hg 51 rfl; simp (disch := first | decide | omega | (simp only [nx]; first | done | omega)) only [go_sem] at q0 q1 q4 q5 q51; clear hg)
      have t5 := hTw.box
      have hkj : k < T.next := by omega
      have hij : i + (vheadB v).length + (vpartB m v j).length ≤ L.length := by
        obtain ⟨X, hX⟩ := vpart_split m v j (v.parts.length - j)
        rw [show j + (v.parts.length - j) = v.parts.length by omega] at hX
        rw [hX, List.length_append] at hlen
        omega
      by_cases hj : j < v.parts.length
      · have b1 : decide ((j : Int) < (v.parts.length : Int)) = true := by simp; omega
        have w1 : IntKind.i64.wrap ((j : Int) + 1) = ((j + 1 : Nat) : Int) := IntWalk.i64_in _ ⟨by omega, by omega⟩
        have wd : IntKind.i64.wrap ((deep : Int) - 1) = ((deep - 1 : Nat) : Int) := by rw [IntWalk.i64_in _ ⟨by omega, by omega⟩]; omega
        have hjn : j < v.names.length := by omega
        obtain ⟨X, hpl⟩ := vpart_at (m := m) hb hj
        have hkey : vkeyB v j = numB v.names[j].length ++ v.names[j] := (by unfold vkeyB; rw [if_pos e5, getD_at hjn])
        have hnb : nameB v.names[j] = true := by
          have := List.all_eq_true.1 c3 j (List.mem_range.2 hjn)
          unfold riseOk at this
          rw [getD_at hjn] at this
          exact ((Bool.and_eq_true _ _).mp this).1
        have hst1 : (v.names.take j).map strD ++ [D.v (sv v.names[j])] = (v.names.take (j + 1)).map strD := by rw [List.take_succ_eq_append_getElem hjn, List.map_append]; rfl
        have hst2 : (v.parts.take j).map encV ++ [encV v.parts[j]] = (v.parts.take (j + 1)).map encV := by rw [List.take_succ_eq_append_getElem hj, List.map_append]; rfl
        have kk5 : ((5 : Int) == 5) = true := by decide
        (simp (disch := first | decide | omega | (simp only [nx]; first | done | omega)) only [go_sem, q52, q0, q1, q4, q5, q51, t5, recL, b1, kk5]; (repeat with_reducible refine aI ?_))
        refine ddraw_any (fun S' => S'.ob T0.next = some (.box 29 (recL (.sl o1 ((v.names.take j).map strD)) (.sl o2 ((v.parts.take j).map encV))))) 6 (by (first | (simp (disch := first | decide | omega | (simp only [nx]; first | done | omega)) only [go_sem, t5]; first | done | rfl) | rfl)) (by kernel_rfl) ?_
        (refine s_take 0 rfl (by kernel_rfl) (by kernel_rfl) (v := ?v1) (fun S' hz => dquietR_of ?h1) <| s_take 1 rfl (by kernel_rfl) (by kernel_rfl) (v := ?v2) (fun S' hz => dquietR_of ?h2) <| s_take 2 rfl (by kernel_rfl) (by kernel_rfl) (v := ?v3) (fun S' hz => dquietR_of ?h3) <| ?k3; (case h1 | h2 | h3 => ((simp (disch := first | decide | omega | (simp only [nx]; first | done | omega)) only [go_sem, q0, q1, q4, q5, q51, recL, hz]; (repeat with_reducible refine aI ?_)); first | done | exact rfl | omega)))
        (refine s_split [3] (by kernel_rfl) (by simp) ?_; intro j_ hj_; obtain rfl : j_ = 3 := (by simpa using hj_); clear hj_; refine s_op rfl ?_; (simp (disch := first | decide | omega | (simp only [nx]; first | done | omega)) only [go_sem, q0, q1, q4, q5, q51]; (repeat with_reducible refine aI ?_)))
        refine (name_r v.names[j] hkj hRj hL hij (rest := bytesV m v.parts[j] ++ X) (by rw [hpl, hkey]) hnb).wf.mono ?_
        rintro _ T3 ⟨⟨rfl, h3, hF3⟩, hT3⟩
        have hTw3 := hTw.rfr (Ne.symm hkn) hRj.isbox hF3
        have w5 := hTw3.box
        have hn3 := hF3.next
        refine ⟨w5, ?_⟩
        (refine s_take 4 rfl (by kernel_rfl) (by kernel_rfl) (v := ?v4) (fun S' hz => dquietR_of ?h4) ?k4; (case h4 => ((simp (disch := first | decide | omega | (simp only [nx]; first | done | omega)) only [go_sem, q0, q1, q4, q5, q51, recL, hz]; (repeat with_reducible refine aI ?_)); first | done | exact rfl | omega)))
        (refine s_split [5] (by kernel_rfl) (by simp) ?_; intro j_ hj_; obtain rfl : j_ = 5 := (by simpa using hj_); clear hj_; refine s_op rfl ?_; (simp (disch := first | decide | omega | (simp only [nx]; first | done | omega)) only [go_sem, q0, q1, q4, q5, q51, recL]; (repeat with_reducible refine aI ?_)))
        refine dapp_at (lo := lo) heA (by kernel_rfl) hTw3.r1 (by rw [hzA]; exact wSs _) (by rw [hzA]; rfl) (by rw [List.length_map, List.length_take]; omega) (by rw [List.length_map, List.length_take, hbA]; omega) ?_
        have y5 : ∀ mm, (T3.grow o1 9 mm).ob T0.next = some (.box 29 (recL (.sl o1 ((v.names.take j).map strD)) (.sl o2 ((v.parts.take j).map encV)))) := fun mm => hTw3.at1 hT3 (by omega) w5
        refine ⟨y5 _, ?_⟩
        (refine s_done (by kernel_rfl) ?_; (simp (disch := first | decide | omega | (simp only [nx]; first | done | omega)) only [go_sem, q0, q1, q4, q5, q51, y5, recL]; (repeat with_reducible refine aI ?_)))
        have key := twoA_step hTw3 hT3 (by omega) (by omega) hne (L1' := (v.names.take j).map strD ++ [D.v (sv v.names[j])]) (m1 := (v.names.take j).length + 1) (by simp)
        simp only [recL] at key
        rw [hst1] at key
        rw [hst1]
        revert key
        generalize St.set (St.grow _ _ _ _) _ _ = T4
        rintro ⟨h4, hF4, hT4, hn4⟩
        have w6 := h4.box
        refine DCalls.of_pure (rise_d (.row T3.next) (v.names.take (j + 1)) (fun x hx => hp.2.2.2.1 x (List.mem_of_mem_take hx)) (by rw [List.length_take]; omega)) ?_
        rw [rise_take c3 (by omega) (j + 1)]
        (simp (disch := first | decide | omega | (simp only [nx]; first | done | omega)) only [go_sem, q0, q1, q4, q5, q51, w6, recL, kk5]; (repeat with_reducible refine aI ?_))
        have hR4 := h3.fz hF4 hkn (by omega)
        have hkl : (vkeyB v j).length = ((numB v.names[j].length).length + v.names[j].length) := by simp [hkey]
        have hpl2 : L.drop (i + (vheadB v).length + (vpartB m v j).length + ((numB v.names[j].length).length + v.names[j].length)) = bytesV m v.parts[j] ++ X := by
          rw [← List.drop_drop, hpl, ← hkl, List.drop_left]
        have hmem := List.getElem_mem hj
        have hdj := DVal.depth_part hmem
        have hvs := vpartB_succ m v j
        rw [getD_at hj] at hvs
        have hvl := congrArg List.length hvs
        rw [List.length_append, List.length_append, hkl] at hvl
        have hij2 : i + (vheadB v).length + (vpartB m v (j + 1)).length ≤ L.length := by
          obtain ⟨X, hX⟩ := vpart_split m v (j + 1) (v.parts.length - (j + 1))
          rw [show j + 1 + (v.parts.length - (j + 1)) = v.parts.length by omega] at hX
          rw [hX, List.length_append] at hlen
          omega
        refine ddraw_any (fun S' => S'.ob T0.next = some (.box 29 (recL (.sl (.row T3.next) ((v.names.take (j + 1)).map strD)) (.sl o2 ((v.parts.take j).map encV))))) 8 (by (first | (simp (disch := first | decide | omega | (simp only [nx]; first | done | omega)) only [go_sem, w6]; first | done | rfl) | rfl)) (by kernel_rfl) ?_
        (refine s_take 0 rfl (by kernel_rfl) (by kernel_rfl) (v := ?v5) (fun S' hz => dquietR_of ?h5) <| s_take 1 rfl (by kernel_rfl) (by kernel_rfl) (v := ?v6) (fun S' hz => dquietR_of ?h6) <| s_take 2 rfl (by kernel_rfl) (by kernel_rfl) (v := ?v7) (fun S' hz => dquietR_of ?h7) <| s_take 3 rfl (by kernel_rfl) (by kernel_rfl) (v := ?v8) (fun S' hz => dquietR_of ?h8) <| s_take 4 rfl (by kernel_rfl) (by kernel_rfl) (v := ?v9) (fun S' hz => dquietR_of ?h9) <| ?k9; (case h5 | h6 | h7 | h8 | h9 => ((simp (disch := first | decide | omega | (simp only [nx]; first | done | omega)) only [go_sem, q0, q1, q4, q5, q51, recL, wd, hz]; (repeat with_reducible refine aI ?_)); first | done | exact rfl | omega)))
        (refine s_split [5] (by kernel_rfl) (by simp) ?_; intro j_ hj_; obtain rfl : j_ = 5 := (by simpa using hj_); clear hj_; refine s_op rfl ?_; (simp (disch := first | decide | omega | (simp only [nx]; first | done | omega)) only [go_sem, q0, q1, q4, q5, q51, wd]; (repeat with_reducible refine aI ?_)))
        refine (ih v.parts[j] (by omega) (by omega) (by omega) (hr.part hmem) (hp.2.2.2.2.2.2.2.2 _ hmem) (by omega) hR4 hL (by omega) hpl2).wf.mono ?_
        rintro _ T5 ⟨⟨rfl, h5, hF5⟩, hT5⟩
        have hTw5 := h4.rfr (Ne.symm hkn) hR4.isbox hF5
        have w7 := hTw5.box
        have hn5 := hF5.next
        refine ⟨w7, ?_⟩
        (refine s_take 6 rfl (by kernel_rfl) (by kernel_rfl) (v := ?v10) (fun S' hz => dquietR_of ?h10) ?k10; (case h10 => ((simp (disch := first | decide | omega | (simp only [nx]; first | done | omega)) only [go_sem, q0, q1, q4, q5, q51, recL, hz]; (repeat with_reducible refine aI ?_)); first | done | exact rfl | omega)))
        (refine s_split [7] (by kernel_rfl) (by simp) ?_; intro j_ hj_; obtain rfl : j_ = 7 := (by simpa using hj_); clear hj_; refine s_op rfl ?_; (simp (disch := first | decide | omega | (simp only [nx]; first | done | omega)) only [go_sem, q0, q1, q4, q5, q51, recL]; (repeat with_reducible refine aI ?_)))
        refine dapp_at (lo := lo) heV (by kernel_rfl) hTw5.r2 (by rw [hzV]; exact wVs _) (by rw [hzV]; exact cells_encV _) (by rw [List.length_map, List.length_take]; omega) (by rw [List.length_map, List.length_take, hbV]; omega) ?_
        have y7 : ∀ mm, (T5.grow o2 29 mm).ob T0.next = some (.box 29 (recL (.sl (.row T3.next) ((v.names.take (j + 1)).map strD)) (.sl o2 ((v.parts.take j).map encV)))) := fun mm => by
          have := hT5.lt w7
          rw [grow_skip (by omega) (hTw5.r2.ne (.inl (by omega)))]
          exact w7
        refine ⟨y7 _, ?_⟩
        (refine s_done (by kernel_rfl) ?_; (simp (disch := first | decide | omega | (simp only [nx]; first | done | omega)) only [go_sem, q0, q1, q4, q5, q51, y7, recL, w1, q52]; (repeat with_reducible refine aI ?_)))
        have key := twoB_step hTw5 hT5 (by omega) (by omega) hne (L2' := (v.parts.take j).map encV ++ [encV v.parts[j]]) (m2 := (v.parts.take j).length + 1) (by simp)
        simp only [recL] at key
        rw [hst2] at key
        revert key
        rw [hst2]
        generalize St.set (St.grow _ _ _ _) _ _ = T6
        rintro ⟨h6, hF6, hT6, hn6⟩
        have hF0j := ((hFj.trans hF3).fz hS hF4 (by omega) (by omega))
        have hFe := ((hF0j.trans hF5).fz hS hF6 (by omega) (by omega))
        have hz6 : T6.ob S.next = some (.box 29 [.v (.int .i64 0), .v (.int .i64 0), .v (.string ⟨#[]⟩), .sl .full [], .sl .full [], .sl .full []]) := hF6.ob _ _ ⟨by omega, by omega⟩ (hF5.box _ _ _ (by omega) (hF4.ob _ _ ⟨by omega, by omega⟩ (hF3.box _ _ _ (by omega) zj)))
        refine ⟨by omega, T6.ob, fun _ _ h => h, by omega, by (first | (simp (disch := first | decide | omega | (simp only [nx]; first | done | omega)) only [go_sem]; first | done | rfl) | rfl), ⟨(.row T3.next), (.row T5.next), h6⟩, ?_, hFe, hz6, by show lo ≤ T6.next; omega⟩
        exact (h5.fz hF6 hkn (by omega)).obk rfl (by omega)
      · have b1 : decide ((j : Int) < (v.parts.length : Int)) = false := by simp; omega
        have hje : j = v.parts.length := by omega
        subst hje
        (simp (disch := first | decide | omega | (simp only [nx]; first | done | omega)) only [go_sem, q52, q0, q1, q4, q5, q51, b1]; (repeat with_reducible refine aI ?_))
        refine (err_r hRj).mono ?_
        rintro _ _ ⟨rfl, he⟩
        rw [he]
        clear he
        (simp (disch := first | decide | omega | (simp only [nx]; first | done | omega)) only [go_sem, q0, q1, q4, q5, q51, zj, t5, recL]; (repeat with_reducible refine aI ?_))
        refine ⟨?_, ?_, ?_⟩
        · rw [List.take_of_length_le (by omega), List.take_of_length_le (Nat.le_refl _)]
          simp only [D.frz, frzL, frz_strs, frz_mapV]
          rw [encV_eq, e5, hn00, hs0, hot]
          rfl
        · exact RAt.obk (set_ne (by omega)) hRj (by omega)
        · exact ⟨hFj.next, fun j o hj e => by have := hS.lt e; exact (set_ne (by omega)).trans (hFj.ob j o hj e)⟩
    by_cases e6 : v.kind = 6
    · have k5 : (v.kind == 5) = false := by simp [e6]
      have k6 : (v.kind == 6) = true := by simp [e6]
      have k1 : (v.kind == 1) = false := by simp [e6]
      have k2 : (v.kind == 2) = false := by simp [e6]
      have k3 : (v.kind == 3) = false := by simp [e6]
      have k4 : (v.kind == 4) = false := by simp [e6]
      have hb1e : hb1 = numB v.parts.length := by
        have := hvh
        unfold vheadB at this
        rw [if_neg (by omega), if_neg (by omega), if_neg (by omega)] at this
        injection this with _ this
        exact this.symm
      have hs0 : v.s = [] := List.eq_nil_of_length_eq_zero (by omega)
      have hn00 : v.n = 0 := by omega
      have hot : v.names = [] := List.eq_nil_of_length_eq_zero (by omega)
      have hln : v.ids.length = v.parts.length := by omega
      (simp (disch := first | decide | omega | (simp only [nx]; first | done | omega)) only [go_sem, z1, u5, k1, k2, k3, k4, k5, k6]; (repeat with_reducible refine aI ?_))
      refine (count_r (mx := 12) (n := v.parts.length) (rest := vpartB m v v.parts.length ++ rest) hkT h1 hL hi1 (by rw [hdr1, hb1e, List.append_assoc]) (by omega) (by omega)).wf.mono ?_
      rintro _ T2 ⟨⟨rfl, h2, hF2⟩, hT2⟩
      have u2 := hF2.box _ _ _ (by omega) u5
      have z2 := hF2.box _ _ _ (by omega) z1
      have hn2 := hF2.next
      have hFS2 := hF1.trans hF2
      rw [e6] at u2
      (simp (disch := first | decide | omega | (simp only [nx]; first | done | omega)) only [go_sem, u2]; (repeat with_reducible refine aI ?_))
      obtain ⟨lo, hlo⟩ : ∃ lo, lo = T0.next + 1 := ⟨_, rfl⟩
      have heA : elT Tryz.prog 26 = some 42 := by kernel_rfl
      have heV : elT Tryz.prog 27 = some 29 := by kernel_rfl
      have hzA : szOf Tryz.prog 42 = 1 := by kernel_rfl
      have hzV : szOf Tryz.prog 29 = 6 := by kernel_rfl
      have hbA : bytesOf Tryz.prog 42 = 8 := by kernel_rfl
      have hbV : bytesOf Tryz.prog 29 = 104 := by kernel_rfl
      have hne : (42 : TypeId) ≠ 29 := by decide
      have hhl : (vheadB v).length = 1 + (numB v.parts.length).length := by rw [hvh, hb1e, List.length_cons]; omega
      refine dloop_up (fun t => List.contains [52, 53, 54, 55, 56, 57, 58, 59, 60, 61, 62, 63, 64, 65, 66, 67, 68, 69, 70, 71, 72, 73, 74, 75, 76, 77, 78, 79, 80, 81, 82, 83, 84, 85, 86, 87, 88, 89, 90, 91, 92] t) (by kernel_rfl) (by exact hT2) v.parts.length (fun j g T => j ≤ v.parts.length ∧ g 52 = .v (.int .i64 ((j : Nat) : Int)) ∧ (∃ o1 o2, Two T0.next lo 42 29 outL ((v.ids.take j).map u64D) ((v.parts.take j).map encV) o1 o2 T) ∧ RAt k L (i + (vheadB v).length + (vpartB m v j).length) T ∧ RFr k S T ∧ T.ob S.next = some (.box 29 [.v (.int .i64 0), .v (.int .i64 0), .v (.string ⟨#[]⟩), .sl .full [], .sl .full [], .sl .full []]) ∧ lo ≤ T.next)
        ⟨by omega, by (first | (simp (disch := first | decide | omega | (simp only [nx]; first | done | omega)) only [go_sem]; first | done | rfl) | rfl), ⟨.full, .full, ⟨u2, .inl ⟨rfl, rfl⟩, .inl ⟨rfl, rfl⟩⟩⟩, h2.obk rfl (by rw [hhl]; simp [vpartB]; omega), hFS2, z2, by omega⟩ ?_
      rintro j g T hT hg ⟨le, q52, ⟨o1, o2, hTw⟩, hRj, hFj, zj, hlj⟩
      (have q0 := hg 0 rfl; have q1 := hg 1 rfl; have q4 := hg 4 rfl; have q5 := hg 5 rfl; have q51 := hg 51 rfl; simp (disch := first | decide | omega | (simp only [nx]; first | done | omega)) only [go_sem] at q0 q1 q4 q5 q51; clear hg)
      have t5 := hTw.box
      have hkj : k < T.next := by omega
      have hij : i + (vheadB v).length + (vpartB m v j).length ≤ L.length := by
        obtain ⟨X, hX⟩ := vpart_split m v j (v.parts.length - j)
        rw [show j + (v.parts.length - j) = v.parts.length by omega] at hX
        rw [hX, List.length_append] at hlen
        omega
      by_cases hj : j < v.parts.length
      · have b1 : decide ((j : Int) < (v.parts.length : Int)) = true := by simp; omega
        have w1 : IntKind.i64.wrap ((j : Int) + 1) = ((j + 1 : Nat) : Int) := IntWalk.i64_in _ ⟨by omega, by omega⟩
        have wd : IntKind.i64.wrap ((deep : Int) - 1) = ((deep - 1 : Nat) : Int) := by rw [IntWalk.i64_in _ ⟨by omega, by omega⟩]; omega
        have hjn : j < v.ids.length := by omega
        obtain ⟨X, hpl⟩ := vpart_at (m := m) hb hj
        have hkey : vkeyB v j = numB v.ids[j] := (by unfold vkeyB; rw [if_neg e5, getD_at hjn])
        have hu : IsU64 v.ids[j] := isU64 (hp.2.2.2.2.2.1 _ (List.getElem_mem hjn))
        have hst1 : (v.ids.take j).map u64D ++ [D.v (.int .u64 (v.ids[j] : Int))] = (v.ids.take (j + 1)).map u64D := by rw [List.take_succ_eq_append_getElem hjn, List.map_append]; rfl
        have hst2 : (v.parts.take j).map encV ++ [encV v.parts[j]] = (v.parts.take (j + 1)).map encV := by rw [List.take_succ_eq_append_getElem hj, List.map_append]; rfl
        have kk5 : ((6 : Int) == 5) = false := by decide
        (simp (disch := first | decide | omega | (simp only [nx]; first | done | omega)) only [go_sem, q52, q0, q1, q4, q5, q51, t5, outL, b1, kk5]; (repeat with_reducible refine aI ?_))
        refine ddraw_any (fun S' => S'.ob T0.next = some (.box 29 (outL (.sl o1 ((v.ids.take j).map u64D)) (.sl o2 ((v.parts.take j).map encV))))) 6 (by (first | (simp (disch := first | decide | omega | (simp only [nx]; first | done | omega)) only [go_sem, t5]; first | done | rfl) | rfl)) (by kernel_rfl) ?_
        (refine s_take 0 rfl (by kernel_rfl) (by kernel_rfl) (v := ?v11) (fun S' hz => dquietR_of ?h11) <| s_take 1 rfl (by kernel_rfl) (by kernel_rfl) (v := ?v12) (fun S' hz => dquietR_of ?h12) <| s_take 2 rfl (by kernel_rfl) (by kernel_rfl) (v := ?v13) (fun S' hz => dquietR_of ?h13) <| ?k13; (case h11 | h12 | h13 => ((simp (disch := first | decide | omega | (simp only [nx]; first | done | omega)) only [go_sem, q0, q1, q4, q5, q51, outL, hz]; (repeat with_reducible refine aI ?_)); first | done | exact rfl | omega)))
        (refine s_split [3] (by kernel_rfl) (by simp) ?_; intro j_ hj_; obtain rfl : j_ = 3 := (by simpa using hj_); clear hj_; refine s_op rfl ?_; (simp (disch := first | decide | omega | (simp only [nx]; first | done | omega)) only [go_sem, q0, q1, q4, q5, q51]; (repeat with_reducible refine aI ?_)))
        refine (number_r (mx := 18446744073709551615) (n := v.ids[j]) (s := (numB v.ids[j]).length) hkj hRj hL hij (by rw [hpl, hkey]; exact numP_numB _ _ hu) (by unfold IsU64 at hu; omega)).wf.mono ?_
        rintro _ T3 ⟨⟨rfl, h3, hF3⟩, hT3⟩
        have hTw3 := hTw.rfr (Ne.symm hkn) hRj.isbox hF3
        have w5 := hTw3.box
        have hn3 := hF3.next
        refine ⟨w5, ?_⟩
        (refine s_take 4 rfl (by kernel_rfl) (by kernel_rfl) (v := ?v14) (fun S' hz => dquietR_of ?h14) ?k14; (case h14 => ((simp (disch := first | decide | omega | (simp only [nx]; first | done | omega)) only [go_sem, q0, q1, q4, q5, q51, outL, hz]; (repeat with_reducible refine aI ?_)); first | done | exact rfl | omega)))
        (refine s_split [5] (by kernel_rfl) (by simp) ?_; intro j_ hj_; obtain rfl : j_ = 5 := (by simpa using hj_); clear hj_; refine s_op rfl ?_; (simp (disch := first | decide | omega | (simp only [nx]; first | done | omega)) only [go_sem, q0, q1, q4, q5, q51, outL]; (repeat with_reducible refine aI ?_)))
        refine dapp_at (lo := lo) heA (by kernel_rfl) hTw3.r1 (by rw [hzA]; exact wUs _) (by rw [hzA]; rfl) (by rw [List.length_map, List.length_take]; omega) (by rw [List.length_map, List.length_take, hbA]; omega) ?_
        have y5 : ∀ mm, (T3.grow o1 42 mm).ob T0.next = some (.box 29 (outL (.sl o1 ((v.ids.take j).map u64D)) (.sl o2 ((v.parts.take j).map encV)))) := fun mm => hTw3.at1 hT3 (by omega) w5
        refine ⟨y5 _, ?_⟩
        (refine s_done (by kernel_rfl) ?_; (simp (disch := first | decide | omega | (simp only [nx]; first | done | omega)) only [go_sem, q0, q1, q4, q5, q51, y5, outL]; (repeat with_reducible refine aI ?_)))
        have key := twoA_step hTw3 hT3 (by omega) (by omega) hne (L1' := (v.ids.take j).map u64D ++ [D.v (.int .u64 (v.ids[j] : Int))]) (m1 := (v.ids.take j).length + 1) (by simp)
        simp only [outL] at key
        rw [hst1] at key
        rw [hst1]
        revert key
        generalize St.set (St.grow _ _ _ _) _ _ = T4
        rintro ⟨h4, hF4, hT4, hn4⟩
        have w6 := h4.box
        refine DCalls.of_pure (ids_d (.row T3.next) (v.ids.take (j + 1)) (by rw [List.length_take]; omega)) ?_
        rw [ids_take c4 (by omega) (j + 1)]
        (simp (disch := first | decide | omega | (simp only [nx]; first | done | omega)) only [go_sem, q0, q1, q4, q5, q51, w6, outL, kk5]; (repeat with_reducible refine aI ?_))
        have hR4 := h3.fz hF4 hkn (by omega)
        have hkl : (vkeyB v j).length = (numB v.ids[j]).length := by simp [hkey]
        have hpl2 : L.drop (i + (vheadB v).length + (vpartB m v j).length + (numB v.ids[j]).length) = bytesV m v.parts[j] ++ X := by
          rw [← List.drop_drop, hpl, ← hkl, List.drop_left]
        have hmem := List.getElem_mem hj
        have hdj := DVal.depth_part hmem
        have hvs := vpartB_succ m v j
        rw [getD_at hj] at hvs
        have hvl := congrArg List.length hvs
        rw [List.length_append, List.length_append, hkl] at hvl
        have hij2 : i + (vheadB v).length + (vpartB m v (j + 1)).length ≤ L.length := by
          obtain ⟨X, hX⟩ := vpart_split m v (j + 1) (v.parts.length - (j + 1))
          rw [show j + 1 + (v.parts.length - (j + 1)) = v.parts.length by omega] at hX
          rw [hX, List.length_append] at hlen
          omega
        refine ddraw_any (fun S' => S'.ob T0.next = some (.box 29 (outL (.sl (.row T3.next) ((v.ids.take (j + 1)).map u64D)) (.sl o2 ((v.parts.take j).map encV))))) 8 (by (first | (simp (disch := first | decide | omega | (simp only [nx]; first | done | omega)) only [go_sem, w6]; first | done | rfl) | rfl)) (by kernel_rfl) ?_
        (refine s_take 0 rfl (by kernel_rfl) (by kernel_rfl) (v := ?v15) (fun S' hz => dquietR_of ?h15) <| s_take 1 rfl (by kernel_rfl) (by kernel_rfl) (v := ?v16) (fun S' hz => dquietR_of ?h16) <| s_take 2 rfl (by kernel_rfl) (by kernel_rfl) (v := ?v17) (fun S' hz => dquietR_of ?h17) <| s_take 3 rfl (by kernel_rfl) (by kernel_rfl) (v := ?v18) (fun S' hz => dquietR_of ?h18) <| s_take 4 rfl (by kernel_rfl) (by kernel_rfl) (v := ?v19) (fun S' hz => dquietR_of ?h19) <| ?k19; (case h15 | h16 | h17 | h18 | h19 => ((simp (disch := first | decide | omega | (simp only [nx]; first | done | omega)) only [go_sem, q0, q1, q4, q5, q51, outL, wd, hz]; (repeat with_reducible refine aI ?_)); first | done | exact rfl | omega)))
        (refine s_split [5] (by kernel_rfl) (by simp) ?_; intro j_ hj_; obtain rfl : j_ = 5 := (by simpa using hj_); clear hj_; refine s_op rfl ?_; (simp (disch := first | decide | omega | (simp only [nx]; first | done | omega)) only [go_sem, q0, q1, q4, q5, q51, wd]; (repeat with_reducible refine aI ?_)))
        refine (ih v.parts[j] (by omega) (by omega) (by omega) (hr.part hmem) (hp.2.2.2.2.2.2.2.2 _ hmem) (by omega) hR4 hL (by omega) hpl2).wf.mono ?_
        rintro _ T5 ⟨⟨rfl, h5, hF5⟩, hT5⟩
        have hTw5 := h4.rfr (Ne.symm hkn) hR4.isbox hF5
        have w7 := hTw5.box
        have hn5 := hF5.next
        refine ⟨w7, ?_⟩
        (refine s_take 6 rfl (by kernel_rfl) (by kernel_rfl) (v := ?v20) (fun S' hz => dquietR_of ?h20) ?k20; (case h20 => ((simp (disch := first | decide | omega | (simp only [nx]; first | done | omega)) only [go_sem, q0, q1, q4, q5, q51, outL, hz]; (repeat with_reducible refine aI ?_)); first | done | exact rfl | omega)))
        (refine s_split [7] (by kernel_rfl) (by simp) ?_; intro j_ hj_; obtain rfl : j_ = 7 := (by simpa using hj_); clear hj_; refine s_op rfl ?_; (simp (disch := first | decide | omega | (simp only [nx]; first | done | omega)) only [go_sem, q0, q1, q4, q5, q51, outL]; (repeat with_reducible refine aI ?_)))
        refine dapp_at (lo := lo) heV (by kernel_rfl) hTw5.r2 (by rw [hzV]; exact wVs _) (by rw [hzV]; exact cells_encV _) (by rw [List.length_map, List.length_take]; omega) (by rw [List.length_map, List.length_take, hbV]; omega) ?_
        have y7 : ∀ mm, (T5.grow o2 29 mm).ob T0.next = some (.box 29 (outL (.sl (.row T3.next) ((v.ids.take (j + 1)).map u64D)) (.sl o2 ((v.parts.take j).map encV)))) := fun mm => by
          have := hT5.lt w7
          rw [grow_skip (by omega) (hTw5.r2.ne (.inl (by omega)))]
          exact w7
        refine ⟨y7 _, ?_⟩
        (refine s_done (by kernel_rfl) ?_; (simp (disch := first | decide | omega | (simp only [nx]; first | done | omega)) only [go_sem, q0, q1, q4, q5, q51, y7, outL, w1, q52]; (repeat with_reducible refine aI ?_)))
        have key := twoB_step hTw5 hT5 (by omega) (by omega) hne (L2' := (v.parts.take j).map encV ++ [encV v.parts[j]]) (m2 := (v.parts.take j).length + 1) (by simp)
        simp only [outL] at key
        rw [hst2] at key
        revert key
        rw [hst2]
        generalize St.set (St.grow _ _ _ _) _ _ = T6
        rintro ⟨h6, hF6, hT6, hn6⟩
        have hF0j := ((hFj.trans hF3).fz hS hF4 (by omega) (by omega))
        have hFe := ((hF0j.trans hF5).fz hS hF6 (by omega) (by omega))
        have hz6 : T6.ob S.next = some (.box 29 [.v (.int .i64 0), .v (.int .i64 0), .v (.string ⟨#[]⟩), .sl .full [], .sl .full [], .sl .full []]) := hF6.ob _ _ ⟨by omega, by omega⟩ (hF5.box _ _ _ (by omega) (hF4.ob _ _ ⟨by omega, by omega⟩ (hF3.box _ _ _ (by omega) zj)))
        refine ⟨by omega, T6.ob, fun _ _ h => h, by omega, by (first | (simp (disch := first | decide | omega | (simp only [nx]; first | done | omega)) only [go_sem]; first | done | rfl) | rfl), ⟨(.row T3.next), (.row T5.next), h6⟩, ?_, hFe, hz6, by show lo ≤ T6.next; omega⟩
        exact (h5.fz hF6 hkn (by omega)).obk rfl (by omega)
      · have b1 : decide ((j : Int) < (v.parts.length : Int)) = false := by simp; omega
        have hje : j = v.parts.length := by omega
        subst hje
        (simp (disch := first | decide | omega | (simp only [nx]; first | done | omega)) only [go_sem, q52, q0, q1, q4, q5, q51, b1]; (repeat with_reducible refine aI ?_))
        refine (err_r hRj).mono ?_
        rintro _ _ ⟨rfl, he⟩
        rw [he]
        clear he
        (simp (disch := first | decide | omega | (simp only [nx]; first | done | omega)) only [go_sem, q0, q1, q4, q5, q51, zj, t5, outL]; (repeat with_reducible refine aI ?_))
        refine ⟨?_, ?_, ?_⟩
        · rw [List.take_of_length_le (by omega), List.take_of_length_le (Nat.le_refl _)]
          simp only [D.frz, frzL, frz_u64s, frz_mapV]
          rw [encV_eq, e6, hn00, hs0, hot]
          rfl
        · exact RAt.obk (set_ne (by omega)) hRj (by omega)
        · exact ⟨hFj.next, fun j o hj e => by have := hS.lt e; exact (set_ne (by omega)).trans (hFj.ob j o hj e)⟩
    obtain ⟨s1, s2, s3⟩ := shape_scalar hh e5 e6
    have k5 : (v.kind == 5) = false := by simp [e5]
    have k6 : (v.kind == 6) = false := by simp [e6]
    have hvp0 : vpartB m v v.parts.length = [] := by rw [s3]; rfl
    by_cases e1 : v.kind = 1
    · have k1 : (v.kind == 1) = true := by simp [e1]
      (simp (disch := first | decide | omega | (simp only [nx]; first | done | omega)) only [go_sem, z1, u5, k1]; (repeat with_reducible refine aI ?_))
      have hb1e : hb1 = [if v.n = 1 then 1 else 0] := by
        have := hvh
        unfold vheadB at this
        rw [if_pos e1] at this
        injection this with _ this
        exact this.symm
      have hs0 : v.s = [] := List.eq_nil_of_length_eq_zero (by omega)
      by_cases en : v.n = 1
      · have hb1f : hb1 = [1] := by rw [hb1e, if_pos en]
        refine (bool_r (c := true) (rest := vpartB m v v.parts.length ++ rest) hkT h1 hL hi1 (by rw [hdr1, hb1f]; rfl)).wf.mono ?_
        rintro _ T2 ⟨⟨rfl, h2, hF2⟩, hT2⟩
        have u2 := hF2.box _ _ _ (by omega) u5
        have z2 := hF2.box _ _ _ (by omega) z1
        have hn2 := hF2.next
        have hFS2 := hF1.trans hF2
        (simp (disch := first | decide | omega | (simp only [nx]; first | done | omega)) only [go_sem, u2]; (repeat with_reducible refine aI ?_))
        obtain ⟨T3, hT3e⟩ : ∃ T3 : St, T3 = T2.set T0.next (.box 29 [.v (.int .i64 v.kind), .v (.int .i64 1), .v (.string ⟨#[]⟩), .sl .full [], .sl .full [], .sl .full []]) := ⟨_, rfl⟩
        rw [← hT3e]
        have hT3 : T3.WF := by rw [hT3e]; exact hT2.set (by omega) _
        have w5 : T3.ob T0.next = some (.box 29 [.v (.int .i64 v.kind), .v (.int .i64 1), .v (.string ⟨#[]⟩), .sl .full [], .sl .full [], .sl .full []]) := by rw [hT3e]; exact set_eq
        have z3 : T3.ob S.next = some (.box 29 [.v (.int .i64 0), .v (.int .i64 0), .v (.string ⟨#[]⟩), .sl .full [], .sl .full [], .sl .full []]) := by rw [hT3e, set_ne (by omega)]; exact z2
        have h3 := h2.obk (T := T3) (by rw [hT3e]; exact set_ne hkn) rfl
        have hF3 : RFr k S T3 := ⟨by rw [hT3e]; exact hFS2.next, fun j o hj e => by have := hS.lt e; rw [hT3e]; exact (set_ne (by omega)).trans (hFS2.ob j o hj e)⟩
        refine dloop_up (fun t => List.contains [52, 53, 54, 55, 56, 57, 58, 59, 60, 61, 62, 63, 64, 65, 66, 67, 68, 69, 70, 71, 72, 73, 74, 75, 76, 77, 78, 79, 80, 81, 82, 83, 84, 85, 86, 87, 88, 89, 90, 91, 92] t) (by kernel_rfl) (by exact hT3) 0 (fun j g T => g 52 = .v (.int .i64 0) ∧ T = T3) ⟨by (first | (simp (disch := first | decide | omega | (simp only [nx]; first | done | omega)) only [go_sem]; first | done | rfl) | rfl), rfl⟩ ?_
        rintro j g T hT hg ⟨q52, hTe⟩
        subst hTe
        (have q0 := hg 0 rfl; have q1 := hg 1 rfl; have q4 := hg 4 rfl; have q5 := hg 5 rfl; have q51 := hg 51 rfl; simp (disch := first | decide | omega | (simp only [nx]; first | done | omega)) only [go_sem] at q0 q1 q4 q5 q51; clear hg)
        have bz : decide ((0 : Int) < 0) = false := by decide
        (simp (disch := first | decide | omega | (simp only [nx]; first | done | omega)) only [go_sem, q52, q0, q1, q4, q5, q51, bz]; (repeat with_reducible refine aI ?_))
        refine (err_r h3).mono ?_
        rintro _ _ ⟨rfl, he⟩
        rw [he]
        clear he
        (simp (disch := first | decide | omega | (simp only [nx]; first | done | omega)) only [go_sem, q0, q1, q4, q5, q51, z3, w5]; (repeat with_reducible refine aI ?_))
        refine ⟨?_, ?_, ?_⟩
        · rw [encV_eq, s1, s2, s3, hs0, en]
          rfl
        · refine RAt.obk (set_ne (by omega)) h3 ?_
          simp only [hvh, hb1e, hvp0, List.length_cons, List.length_append, List.length_nil]
          try omega
        · exact ⟨hF3.next, fun j o hj e => by have := hS.lt e; exact (set_ne (by omega)).trans (hF3.ob j o hj e)⟩
      · have en0 : v.n = 0 := by omega
        have hb1f : hb1 = [0] := by rw [hb1e, if_neg en]
        refine (bool_r (c := false) (rest := vpartB m v v.parts.length ++ rest) hkT h1 hL hi1 (by rw [hdr1, hb1f]; rfl)).wf.mono ?_
        rintro _ T2 ⟨⟨rfl, h2, hF2⟩, hT2⟩
        have u2 := hF2.box _ _ _ (by omega) u5
        have z2 := hF2.box _ _ _ (by omega) z1
        have hn2 := hF2.next
        have hFS2 := hF1.trans hF2
        (simp (disch := first | decide | omega | (simp only [nx]; first | done | omega)) only [go_sem, u2]; (repeat with_reducible refine aI ?_))
        have hT3 := hT2
        have w5 := u2
        have z3 := z2
        have h3 := h2
        have hF3 := hFS2
        refine dloop_up (fun t => List.contains [52, 53, 54, 55, 56, 57, 58, 59, 60, 61, 62, 63, 64, 65, 66, 67, 68, 69, 70, 71, 72, 73, 74, 75, 76, 77, 78, 79, 80, 81, 82, 83, 84, 85, 86, 87, 88, 89, 90, 91, 92] t) (by kernel_rfl) (by exact hT2) 0 (fun j g T => g 52 = .v (.int .i64 0) ∧ T = T2) ⟨by (first | (simp (disch := first | decide | omega | (simp only [nx]; first | done | omega)) only [go_sem]; first | done | rfl) | rfl), rfl⟩ ?_
        rintro j g T hT hg ⟨q52, hTe⟩
        subst hTe
        (have q0 := hg 0 rfl; have q1 := hg 1 rfl; have q4 := hg 4 rfl; have q5 := hg 5 rfl; have q51 := hg 51 rfl; simp (disch := first | decide | omega | (simp only [nx]; first | done | omega)) only [go_sem] at q0 q1 q4 q5 q51; clear hg)
        have bz : decide ((0 : Int) < 0) = false := by decide
        (simp (disch := first | decide | omega | (simp only [nx]; first | done | omega)) only [go_sem, q52, q0, q1, q4, q5, q51, bz]; (repeat with_reducible refine aI ?_))
        refine (err_r h3).mono ?_
        rintro _ _ ⟨rfl, he⟩
        rw [he]
        clear he
        (simp (disch := first | decide | omega | (simp only [nx]; first | done | omega)) only [go_sem, q0, q1, q4, q5, q51, z3, w5]; (repeat with_reducible refine aI ?_))
        refine ⟨?_, ?_, ?_⟩
        · rw [encV_eq, s1, s2, s3, hs0, en0]
          rfl
        · refine RAt.obk (set_ne (by omega)) h3 ?_
          simp only [hvh, hb1e, hvp0, List.length_cons, List.length_append, List.length_nil]
          try omega
        · exact ⟨hF3.next, fun j o hj e => by have := hS.lt e; exact (set_ne (by omega)).trans (hF3.ob j o hj e)⟩
    have k1 : (v.kind == 1) = false := by simp [e1]
    by_cases e2 : v.kind = 2
    · have k2 : (v.kind == 2) = true := by simp [e2]
      (simp (disch := first | decide | omega | (simp only [nx]; first | done | omega)) only [go_sem, z1, u5, k1, k2]; (repeat with_reducible refine aI ?_))
      have hb1e : hb1 = numB (zig v.n) := by
        have := hvh
        unfold vheadB at this
        rw [if_neg e1, if_pos e2] at this
        injection this with _ this
        exact this.symm
      have hs0 : v.s = [] := List.eq_nil_of_length_eq_zero (by omega)
      refine (int_r (rest := vpartB m v v.parts.length ++ rest) v.n (isI64 hp.2.1) hkT h1 hL hi1 (by rw [hdr1, hb1e, List.append_assoc])).wf.mono ?_
      rintro _ T2 ⟨⟨rfl, h2, hF2⟩, hT2⟩
      have u2 := hF2.box _ _ _ (by omega) u5
      have z2 := hF2.box _ _ _ (by omega) z1
      have hn2 := hF2.next
      have hFS2 := hF1.trans hF2
      (simp (disch := first | decide | omega | (simp only [nx]; first | done | omega)) only [go_sem, u2]; (repeat with_reducible refine aI ?_))
      obtain ⟨T3, hT3e⟩ : ∃ T3 : St, T3 = T2.set T0.next (.box 29 [.v (.int .i64 v.kind), .v (.int .i64 v.n), .v (.string ⟨#[]⟩), .sl .full [], .sl .full [], .sl .full []]) := ⟨_, rfl⟩
      rw [← hT3e]
      have hT3 : T3.WF := by rw [hT3e]; exact hT2.set (by omega) _
      have w5 : T3.ob T0.next = some (.box 29 [.v (.int .i64 v.kind), .v (.int .i64 v.n), .v (.string ⟨#[]⟩), .sl .full [], .sl .full [], .sl .full []]) := by rw [hT3e]; exact set_eq
      have z3 : T3.ob S.next = some (.box 29 [.v (.int .i64 0), .v (.int .i64 0), .v (.string ⟨#[]⟩), .sl .full [], .sl .full [], .sl .full []]) := by rw [hT3e, set_ne (by omega)]; exact z2
      have h3 := h2.obk (T := T3) (by rw [hT3e]; exact set_ne hkn) rfl
      have hF3 : RFr k S T3 := ⟨by rw [hT3e]; exact hFS2.next, fun j o hj e => by have := hS.lt e; rw [hT3e]; exact (set_ne (by omega)).trans (hFS2.ob j o hj e)⟩
      refine dloop_up (fun t => List.contains [52, 53, 54, 55, 56, 57, 58, 59, 60, 61, 62, 63, 64, 65, 66, 67, 68, 69, 70, 71, 72, 73, 74, 75, 76, 77, 78, 79, 80, 81, 82, 83, 84, 85, 86, 87, 88, 89, 90, 91, 92] t) (by kernel_rfl) (by exact hT3) 0 (fun j g T => g 52 = .v (.int .i64 0) ∧ T = T3) ⟨by (first | (simp (disch := first | decide | omega | (simp only [nx]; first | done | omega)) only [go_sem]; first | done | rfl) | rfl), rfl⟩ ?_
      rintro j g T hT hg ⟨q52, hTe⟩
      subst hTe
      (have q0 := hg 0 rfl; have q1 := hg 1 rfl; have q4 := hg 4 rfl; have q5 := hg 5 rfl; have q51 := hg 51 rfl; simp (disch := first | decide | omega | (simp only [nx]; first | done | omega)) only [go_sem] at q0 q1 q4 q5 q51; clear hg)
      have bz : decide ((0 : Int) < 0) = false := by decide
      (simp (disch := first | decide | omega | (simp only [nx]; first | done | omega)) only [go_sem, q52, q0, q1, q4, q5, q51, bz]; (repeat with_reducible refine aI ?_))
      refine (err_r h3).mono ?_
      rintro _ _ ⟨rfl, he⟩
      rw [he]
      clear he
      (simp (disch := first | decide | omega | (simp only [nx]; first | done | omega)) only [go_sem, q0, q1, q4, q5, q51, z3, w5]; (repeat with_reducible refine aI ?_))
      refine ⟨?_, ?_, ?_⟩
      · rw [encV_eq, s1, s2, s3, hs0]
        rfl
      · refine RAt.obk (set_ne (by omega)) h3 ?_
        simp only [hvh, hb1e, hvp0, List.length_cons, List.length_append, List.length_nil]
        try omega
      · exact ⟨hF3.next, fun j o hj e => by have := hS.lt e; exact (set_ne (by omega)).trans (hF3.ob j o hj e)⟩
    have k2 : (v.kind == 2) = false := by simp [e2]
    by_cases e3 : v.kind = 3
    · have k3 : (v.kind == 3) = true := by simp [e3]
      (simp (disch := first | decide | omega | (simp only [nx]; first | done | omega)) only [go_sem, z1, u5, k1, k2, k3]; (repeat with_reducible refine aI ?_))
      have hb1e : hb1 = numB v.s.length ++ v.s := by
        have := hvh
        unfold vheadB at this
        rw [if_neg e1, if_neg e2, if_pos (.inl e3)] at this
        injection this with _ this
        exact this.symm
      have hn00 : v.n = 0 := by omega
      refine (text_r (xs := v.s) (mx := 64) hkT h1 hL hi1 (by omega) (by rw [hdr1, hb1e, hvp0, List.append_nil]; exact bytP_numB v.s rest 64 hf.s (by have := hf.s; omega))).wf.mono ?_
      rintro d2 T2 ⟨⟨hd2, h2, hF2⟩, hT2⟩
      have hd2' : d2 = .v (sv v.s) := hd2
      subst hd2'
      clear hd2
      have u2 := hF2.box _ _ _ (by omega) u5
      have z2 := hF2.box _ _ _ (by omega) z1
      have hn2 := hF2.next
      have hFS2 := hF1.trans hF2
      (simp (disch := first | decide | omega | (simp only [nx]; first | done | omega)) only [go_sem, u2]; (repeat with_reducible refine aI ?_))
      obtain ⟨T3, hT3e⟩ : ∃ T3 : St, T3 = T2.set T0.next (.box 29 [.v (.int .i64 v.kind), .v (.int .i64 0), .v (sv v.s), .sl .full [], .sl .full [], .sl .full []]) := ⟨_, rfl⟩
      rw [← hT3e]
      have hT3 : T3.WF := by rw [hT3e]; exact hT2.set (by omega) _
      have w5 : T3.ob T0.next = some (.box 29 [.v (.int .i64 v.kind), .v (.int .i64 0), .v (sv v.s), .sl .full [], .sl .full [], .sl .full []]) := by rw [hT3e]; exact set_eq
      have z3 : T3.ob S.next = some (.box 29 [.v (.int .i64 0), .v (.int .i64 0), .v (.string ⟨#[]⟩), .sl .full [], .sl .full [], .sl .full []]) := by rw [hT3e, set_ne (by omega)]; exact z2
      have h3 := h2.obk (T := T3) (by rw [hT3e]; exact set_ne hkn) rfl
      have hF3 : RFr k S T3 := ⟨by rw [hT3e]; exact hFS2.next, fun j o hj e => by have := hS.lt e; rw [hT3e]; exact (set_ne (by omega)).trans (hFS2.ob j o hj e)⟩
      refine dloop_up (fun t => List.contains [52, 53, 54, 55, 56, 57, 58, 59, 60, 61, 62, 63, 64, 65, 66, 67, 68, 69, 70, 71, 72, 73, 74, 75, 76, 77, 78, 79, 80, 81, 82, 83, 84, 85, 86, 87, 88, 89, 90, 91, 92] t) (by kernel_rfl) (by exact hT3) 0 (fun j g T => g 52 = .v (.int .i64 0) ∧ T = T3) ⟨by (first | (simp (disch := first | decide | omega | (simp only [nx]; first | done | omega)) only [go_sem]; first | done | rfl) | rfl), rfl⟩ ?_
      rintro j g T hT hg ⟨q52, hTe⟩
      subst hTe
      (have q0 := hg 0 rfl; have q1 := hg 1 rfl; have q4 := hg 4 rfl; have q5 := hg 5 rfl; have q51 := hg 51 rfl; simp (disch := first | decide | omega | (simp only [nx]; first | done | omega)) only [go_sem] at q0 q1 q4 q5 q51; clear hg)
      have bz : decide ((0 : Int) < 0) = false := by decide
      (simp (disch := first | decide | omega | (simp only [nx]; first | done | omega)) only [go_sem, q52, q0, q1, q4, q5, q51, bz]; (repeat with_reducible refine aI ?_))
      refine (err_r h3).mono ?_
      rintro _ _ ⟨rfl, he⟩
      rw [he]
      clear he
      (simp (disch := first | decide | omega | (simp only [nx]; first | done | omega)) only [go_sem, q0, q1, q4, q5, q51, z3, w5]; (repeat with_reducible refine aI ?_))
      refine ⟨?_, ?_, ?_⟩
      · rw [encV_eq, s1, s2, s3, hn00]
        rfl
      · refine RAt.obk (set_ne (by omega)) h3 ?_
        simp only [hvh, hb1e, hvp0, List.length_cons, List.length_append, List.length_nil]
        try omega
      · exact ⟨hF3.next, fun j o hj e => by have := hS.lt e; exact (set_ne (by omega)).trans (hF3.ob j o hj e)⟩
    have k3 : (v.kind == 3) = false := by simp [e3]
    have e4 : v.kind = 4 := by omega
    have k4 : (v.kind == 4) = true := by simp [e4]
    (simp (disch := first | decide | omega | (simp only [nx]; first | done | omega)) only [go_sem, z1, u5, k1, k2, k3, k4]; (repeat with_reducible refine aI ?_))
    have hb1e : hb1 = numB v.s.length ++ v.s := by
      have := hvh
      unfold vheadB at this
      rw [if_neg e1, if_neg e2, if_pos (.inr e4)] at this
      injection this with _ this
      exact this.symm
    have hn00 : v.n = 0 := by omega
    have hnb : nameB v.s = true := by
      cases hb : nameB v.s with
      | true => rfl
      | false => exact absurd (.inr (.inr (.inl ⟨e4, hb⟩))) c2
    refine (name_r v.s (rest := rest) hkT h1 hL hi1 (by rw [hdr1, hb1e, hvp0, List.append_nil]) hnb).wf.mono ?_
    rintro _ T2 ⟨⟨rfl, h2, hF2⟩, hT2⟩
    have u2 := hF2.box _ _ _ (by omega) u5
    have z2 := hF2.box _ _ _ (by omega) z1
    have hn2 := hF2.next
    have hFS2 := hF1.trans hF2
    (simp (disch := first | decide | omega | (simp only [nx]; first | done | omega)) only [go_sem, u2, strD]; (repeat with_reducible refine aI ?_))
    obtain ⟨T3, hT3e⟩ : ∃ T3 : St, T3 = T2.set T0.next (.box 29 [.v (.int .i64 v.kind), .v (.int .i64 0), .v (sv v.s), .sl .full [], .sl .full [], .sl .full []]) := ⟨_, rfl⟩
    rw [← hT3e]
    have hT3 : T3.WF := by rw [hT3e]; exact hT2.set (by omega) _
    have w5 : T3.ob T0.next = some (.box 29 [.v (.int .i64 v.kind), .v (.int .i64 0), .v (sv v.s), .sl .full [], .sl .full [], .sl .full []]) := by rw [hT3e]; exact set_eq
    have z3 : T3.ob S.next = some (.box 29 [.v (.int .i64 0), .v (.int .i64 0), .v (.string ⟨#[]⟩), .sl .full [], .sl .full [], .sl .full []]) := by rw [hT3e, set_ne (by omega)]; exact z2
    have h3 := h2.obk (T := T3) (by rw [hT3e]; exact set_ne hkn) rfl
    have hF3 : RFr k S T3 := ⟨by rw [hT3e]; exact hFS2.next, fun j o hj e => by have := hS.lt e; rw [hT3e]; exact (set_ne (by omega)).trans (hFS2.ob j o hj e)⟩
    refine dloop_up (fun t => List.contains [52, 53, 54, 55, 56, 57, 58, 59, 60, 61, 62, 63, 64, 65, 66, 67, 68, 69, 70, 71, 72, 73, 74, 75, 76, 77, 78, 79, 80, 81, 82, 83, 84, 85, 86, 87, 88, 89, 90, 91, 92] t) (by kernel_rfl) (by exact hT3) 0 (fun j g T => g 52 = .v (.int .i64 0) ∧ T = T3) ⟨by (first | (simp (disch := first | decide | omega | (simp only [nx]; first | done | omega)) only [go_sem]; first | done | rfl) | rfl), rfl⟩ ?_
    rintro j g T hT hg ⟨q52, hTe⟩
    subst hTe
    (have q0 := hg 0 rfl; have q1 := hg 1 rfl; have q4 := hg 4 rfl; have q5 := hg 5 rfl; have q51 := hg 51 rfl; simp (disch := first | decide | omega | (simp only [nx]; first | done | omega)) only [go_sem] at q0 q1 q4 q5 q51; clear hg)
    have bz : decide ((0 : Int) < 0) = false := by decide
    (simp (disch := first | decide | omega | (simp only [nx]; first | done | omega)) only [go_sem, q52, q0, q1, q4, q5, q51, bz]; (repeat with_reducible refine aI ?_))
    refine (err_r h3).mono ?_
    rintro _ _ ⟨rfl, he⟩
    rw [he]
    clear he
    (simp (disch := first | decide | omega | (simp only [nx]; first | done | omega)) only [go_sem, q0, q1, q4, q5, q51, z3, w5]; (repeat with_reducible refine aI ?_))
    refine ⟨?_, ?_, ?_⟩
    · rw [encV_eq, s1, s2, s3, hn00]
      rfl
    · refine RAt.obk (set_ne (by omega)) h3 ?_
      simp only [hvh, hb1e, hvp0, List.length_cons, List.length_append, List.length_nil]
      try omega
    · exact ⟨hF3.next, fun j o hj e => by have := hS.lt e; exact (set_ne (by omega)).trans (hF3.ob j o hj e)⟩
end Go.Proofs.YtjjhjhjphhpeiaaGreatDoor
