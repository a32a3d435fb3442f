/- Texts of a proof, part 4. Conditions: none. -/
import Derived.Test.YtbcabejdchkpmaaDoorR3
set_option linter.unusedVariables false
set_option linter.unusedSimpArgs false
namespace Go.Proofs.YtbcabejdchkpmaaDoor
open Go.RowKit Go.Extern.Stop Go.Stop Go.Extern
abbrev erD (n : Int) : D := .ifc 25 (.v (.int .i64 n))
abbrev atD (k : Nat) : D := .ifc 91 (.loc k 0)
inductive Chain (S : St) : List Int → Int → D → Prop
  | code (n : Int) : Chain S [] n (erD n)
  | at_ {p : Int} {ps : List Int} {n : Int} {k : Nat} {d : D} (hk : S.ob k = some (.box 93 [.v (.int .i64 p), d])) (h : Chain S ps n d) : Chain S (p :: ps) n (atD k)
theorem Chain.mono {S T : St} (h : ∀ k cs, S.ob k = some (.box 93 cs) → T.ob k = some (.box 93 cs)) {ps : List Int} {n : Int} {d : D} (hc : Chain S ps n d) : Chain T ps n d := by
  induction hc with
  | code n => exact .code n
  | at_ hk _ ih => exact .at_ (h _ _ hk) ih
section
variable {P : Program} {S : St} {K : D → St → Prop}
theorem dassert_if {dt xt t : TypeId} {u : D} (h : ∀ x w, (Instr.typeAssert (.iface dt x) xt t true).run P w = .ok (.tuple #[.iface dt x, .bool true]) w) (hk : K (.tup [.ifc dt u, .v (.bool true)]) S) : dassert P (.ifc dt u) xt t true S K := fun base η w vs hM hr => by
  simp only [RepL, Rep] at hr
  obtain ⟨_, _, rfl, ⟨x, rfl, hx⟩, rfl⟩ := hr
  refine ⟨_, S, η, _, w, h x w, hk, ?_, Goes.refl hM⟩
  simp only [Rep, RepL]
  exact ⟨_, rfl, _, _, rfl, ⟨x, rfl, hx⟩, _, _, rfl, rfl, rfl⟩
theorem dassert_no {dt xt t : TypeId} {u : D} {z : Value} (h : ∀ x w, (Instr.typeAssert (.iface dt x) xt t true).run P w = .ok (.tuple #[z, .bool false]) w) (hk : K (.tup [.v z, .v (.bool false)]) S) : dassert P (.ifc dt u) xt t true S K := fun base η w vs hM hr => by
  simp only [RepL, Rep] at hr
  obtain ⟨_, _, rfl, ⟨x, rfl, hx⟩, rfl⟩ := hr
  refine ⟨_, S, η, _, w, h x w, hk, ?_, Goes.refl hM⟩
  simp only [Rep, RepL]
  exact ⟨_, rfl, _, _, rfl, rfl, _, _, rfl, rfl, rfl⟩
theorem dmeth_same {t : TypeId} {d : D} {m : String} {g : FuncId} (h : ∀ x w, (method (P.types.size + Made.depth) t x m).run P w = .ok (g, x) w) : DMeth P t d m g d := fun w η X v hr => ⟨v, h v w, hr⟩
end
section
variable {S : St} {K : D → St → Prop} {u : D}
theorem asrErAs (hk : K (.tup [.v .nilIface, .v (.bool false)]) S) : dassert Tryd.prog (.ifc 25 u) 35 127 true S K := dassert_no (fun x w => run_typeAssert_lacksB Tryd.underlying127 (by kernel_rfl) (by kernel_rfl) x 35 w) hk
theorem asrErUn (hk : K (.tup [.v .nilIface, .v (.bool false)]) S) : dassert Tryd.prog (.ifc 25 u) 35 130 true S K := dassert_no (fun x w => run_typeAssert_lacksB Tryd.underlying130 (by kernel_rfl) (by kernel_rfl) x 35 w) hk
theorem asrErUs (hk : K (.tup [.v .nilIface, .v (.bool false)]) S) : dassert Tryd.prog (.ifc 25 u) 35 131 true S K := dassert_no (fun x w => run_typeAssert_lacksB Tryd.underlying131 (by kernel_rfl) (by kernel_rfl) x 35 w) hk
theorem asrAtAs (hk : K (.tup [.v .nilIface, .v (.bool false)]) S) : dassert Tryd.prog (.ifc 91 u) 35 127 true S K := dassert_no (fun x w => run_typeAssert_lacksB Tryd.underlying127 (by kernel_rfl) (by kernel_rfl) x 35 w) hk
theorem asrAtUn (hk : K (.tup [.ifc 91 u, .v (.bool true)]) S) : dassert Tryd.prog (.ifc 91 u) 35 130 true S K := dassert_if (fun x w => run_typeAssert_hasB Tryd.underlying130 (by kernel_rfl) x 35 w) hk
theorem methUn {d : D} : DMeth Tryd.prog 91 d "Unwrap" 124 d := dmeth_same fun x w => by kernel_rfl
theorem rlAsgErAt (h : K (.v (.bool false)) S) : DCalls Tryd.prog 129 [tyD 25, rtD 91] S K :=
  dext_pure (e := ReflectliteType.relation "AssignableTo" ReflectliteType.assignableTo) Tryd.func129 (by kernel_rfl) (by kernel_rfl) (by kernel_rfl) (by kernel_rfl) (r := .bool false) rfl (fun w => by kernel_rfl) rfl h
theorem rlAsgAtEr (h : K (.v (.bool false)) S) : DCalls Tryd.prog 129 [tyD 91, rtD 25] S K :=
  dext_pure (e := ReflectliteType.relation "AssignableTo" ReflectliteType.assignableTo) Tryd.func129 (by kernel_rfl) (by kernel_rfl) (by kernel_rfl) (by kernel_rfl) (r := .bool false) rfl (fun w => by kernel_rfl) rfl h
end
theorem unpackEr (n : Int) (w : World) : (ReflectliteValue.unpack (.iface 25 (.int .i64 n))).run Tryd.prog w = .ok (.agg #[tyV 25, .pointer (some ⟨w.heap.size, 0, none⟩), .int .u64 130]) (w.alloc (.cells #[.int .i64 n] 25)) := by kernel_rfl
theorem unpackAt (a : Addr) (w : World) : (ReflectliteValue.unpack (.iface 91 (.pointer (some a)))).run Tryd.prog w = .ok (.agg #[tyV 91, .pointer (some ⟨w.heap.size, 0, none⟩), .int .u64 150]) (w.alloc (.cells #[.pointer (some a)] 91)) := by kernel_rfl
section
variable {S : St} {K : D → St → Prop}
theorem rlValueOfEr {n : Int} (h : K (.agg [.v (tyV 25), .loc S.next 0, .v (.int .u64 130)]) (S.add (.box 25 [.v (.int .i64 n)]))) : DCalls Tryd.prog 73 [erD n] S K :=
  dext (e := fun args => ReflectliteValue.unpack (args.getD 0 (.tuple #[]))) Tryd.func73 (by kernel_rfl) (by kernel_rfl) (by kernel_rfl) (by kernel_rfl) fun base η w vs hM hr => by
    simp only [RepL, Rep] at hr
    obtain ⟨_, _, rfl, ⟨_, rfl, rfl⟩, rfl⟩ := hr
    have G := goes_name hM (.box 25 [.v (.int .i64 n)]) #[.int .i64 n] 25 (.inl ⟨_, [.int .i64 n], rfl, rfl, by simp only [RepL, Rep]; exact ⟨_, _, rfl, rfl, rfl⟩, fun x hx => by rw [List.mem_singleton] at hx; subst hx; rfl⟩)
    refine ⟨_, _, _, _, _, unpackEr _ w, h, ?_, G⟩
    simp only [Rep, RepL]
    exact ⟨[_, _, _], rfl, ⟨_, _, rfl, rfl, _, _, rfl, ⟨w.heap.size, by simp only [Names.add, ↓reduceIte], rfl⟩, _, _, rfl, rfl, rfl⟩, fun x hx => by simp only [List.mem_cons, List.not_mem_nil, or_false] at hx; rcases hx with rfl | rfl | rfl <;> rfl⟩
theorem rlValueOfAt {k off : Nat} (h : K (.agg [.v (tyV 91), .loc S.next 0, .v (.int .u64 150)]) (S.add (.box 91 [.loc k off]))) : DCalls Tryd.prog 73 [.ifc 91 (.loc k off)] S K :=
  dext (e := fun args => ReflectliteValue.unpack (args.getD 0 (.tuple #[]))) Tryd.func73 (by kernel_rfl) (by kernel_rfl) (by kernel_rfl) (by kernel_rfl) fun base η w vs hM hr => by
    simp only [RepL, Rep] at hr
    obtain ⟨_, _, rfl, ⟨_, rfl, b, hb, rfl⟩, rfl⟩ := hr
    have G := goes_name hM (.box 91 [.loc k off]) #[.pointer (some ⟨b, off, none⟩)] 91 (.inl ⟨_, [.pointer (some ⟨b, off, none⟩)], rfl, rfl, by simp only [RepL, Rep]; exact ⟨_, _, rfl, ⟨b, hb, rfl⟩, rfl⟩, fun x hx => by rw [List.mem_singleton] at hx; subst hx; rfl⟩)
    refine ⟨_, _, _, _, _, unpackAt _ w, h, ?_, G⟩
    simp only [Rep, RepL]
    exact ⟨[_, _, _], rfl, ⟨_, _, rfl, rfl, _, _, rfl, ⟨w.heap.size, by simp only [Names.add, ↓reduceIte], rfl⟩, _, _, rfl, rfl, rfl⟩, fun x hx => by simp only [List.mem_cons, List.not_mem_nil, or_false] at hx; rcases hx with rfl | rfl | rfl <;> rfl⟩
end

theorem partsEra (a : Addr) (w : World) : (ReflectliteValue.parts (.agg #[tyV 25, .pointer (some a), .int .u64 386])).run Tryd.prog w = .ok (some (25, a, 386)) w := by kernel_rfl
theorem partsEr (a : Addr) (w : World) : (ReflectliteValue.parts (.agg #[tyV 25, .pointer (some a), .int .u64 130])).run Tryd.prog w = .ok (some (25, a, 130)) w := by kernel_rfl
theorem directEr (w : World) : (Rtype.directlyAssignable 25 25).run Tryd.prog w = .ok true w := by kernel_rfl
theorem sizeEr (w : World) : (sizeOf 25).run Tryd.prog w = .ok 1 w := by kernel_rfl
theorem setEr {b a : Nat} {x : Value} {n : Int} {W : World} (hb : W.heap[b]? = some (.cells [x].toArray 25 (0, 0))) (ha : W.cell? ⟨a, 0, none⟩ = some (.int .i64 n)) :
    (ReflectliteValue.set #[.agg #[tyV 25, .pointer (some ⟨b, 0, none⟩), .int .u64 386], .agg #[tyV 25, .pointer (some ⟨a, 0, none⟩), .int .u64 130]]).run Tryd.prog W = .ok (.tuple #[]) (W.setRow b [.int .i64 n].toArray) := by
  have q := run_storeCells_at Tryd.prog b 0 25 [.int .i64 n] 0 [x].toArray W hb (by simp) (by simp [Value.oneCell'])
  rw [rls]
  simp only [Sem.run_bind, partsEra, partsEr, Result.andThen]
  simp [ReflectliteValue.flagAddr, loadVar, isAgg, underlying, Tryd.underlying25, ha, Result.andThen, directEr, storeVar, sizeEr, Value.cells] at q ⊢
  simp [q]
theorem rlSetEr {S : St} {K : D → St → Prop} {a b : Nat} {d0 : D} {n : Int} (hb : S.ob b = some (.box 25 [d0])) (ha : S.ob a = some (.box 25 [.v (.int .i64 n)])) (h : K (.tup []) (S.set b (.box 25 [.v (.int .i64 n)]))) :
    DCalls Tryd.prog 85 [.agg [.v (tyV 25), .loc b 0, .v (.int .u64 386)], .agg [.v (tyV 25), .loc a 0, .v (.int .u64 130)]] S K :=
  dext (e := ReflectliteValue.set) Tryd.func85 (by kernel_rfl) (by kernel_rfl) (by kernel_rfl) (by kernel_rfl) fun base η w vs hM hr => by
    simp only [RepL, Rep] at hr
    obtain ⟨_, _, rfl, ⟨_, rfl, ⟨_, _, rfl, rfl, _, _, rfl, ⟨q, hq, rfl⟩, _, _, rfl, rfl, rfl⟩, _⟩, _, _, rfl, ⟨_, rfl, ⟨_, _, rfl, rfl, _, _, rfl, ⟨p, hp, rfl⟩, _, _, rfl, rfl, rfl⟩, _⟩, rfl⟩ := hr
    obtain ⟨us, g1, g2, g3⟩ := hM.box b _ _ q hb hq
    obtain ⟨us', k1, k2, k3⟩ := hM.box a _ _ p ha hp
    simp only [RepL] at g2
    obtain ⟨x, _, rfl, hx, rfl⟩ := g2
    simp only [RepL] at k2
    obtain ⟨y, _, rfl, hy, rfl⟩ := k2
    have hy0 := hy
    simp only [Rep] at hy
    subst hy
    have hc : w.cell? ⟨p, 0, none⟩ = some (.int .i64 n) := by simp [World.cell?, k1]
    have G := goes_set hM (cs' := [.v (.int .i64 n)]) (vs' := [_]) hb hq rfl (by simp only [RepL]; exact ⟨_, _, rfl, hy0, rfl⟩) k3
    exact ⟨_, _, _, _, _, setEr g1 hc, h, by simp only [Rep, RepL]; exact ⟨[], rfl, rfl⟩, G⟩

theorem partsAta (a : Addr) (w : World) : (ReflectliteValue.parts (.agg #[tyV 91, .pointer (some a), .int .u64 406])).run Tryd.prog w = .ok (some (91, a, 406)) w := by kernel_rfl
theorem partsAt (a : Addr) (w : World) : (ReflectliteValue.parts (.agg #[tyV 91, .pointer (some a), .int .u64 150])).run Tryd.prog w = .ok (some (91, a, 150)) w := by kernel_rfl
theorem directAt (w : World) : (Rtype.directlyAssignable 91 91).run Tryd.prog w = .ok true w := by kernel_rfl
theorem sizeAt (w : World) : (sizeOf 91).run Tryd.prog w = .ok 1 w := by kernel_rfl
theorem setAt {b a : Nat} {x : Value} {c : Addr} {W : World} (hb : W.heap[b]? = some (.cells [x].toArray 91 (0, 0))) (ha : W.cell? ⟨a, 0, none⟩ = some (.pointer (some c))) :
    (ReflectliteValue.set #[.agg #[tyV 91, .pointer (some ⟨b, 0, none⟩), .int .u64 406], .agg #[tyV 91, .pointer (some ⟨a, 0, none⟩), .int .u64 150]]).run Tryd.prog W = .ok (.tuple #[]) (W.setRow b [.pointer (some c)].toArray) := by
  have q := run_storeCells_at Tryd.prog b 0 91 [.pointer (some c)] 0 [x].toArray W hb (by simp) (by simp [Value.oneCell'])
  rw [rls]
  simp only [Sem.run_bind, partsAta, partsAt, Result.andThen]
  simp [ReflectliteValue.flagAddr, loadVar, isAgg, underlying, Tryd.underlying91, ha, Result.andThen, directAt, storeVar, sizeAt, Value.cells] at q ⊢
  simp [q]
theorem rlSetAt {S : St} {K : D → St → Prop} {a b : Nat} {d0 : D} {k off : Nat} (hb : S.ob b = some (.box 91 [d0])) (ha : S.ob a = some (.box 91 [.loc k off])) (h : K (.tup []) (S.set b (.box 91 [.loc k off]))) :
    DCalls Tryd.prog 85 [.agg [.v (tyV 91), .loc b 0, .v (.int .u64 406)], .agg [.v (tyV 91), .loc a 0, .v (.int .u64 150)]] S K :=
  dext (e := ReflectliteValue.set) Tryd.func85 (by kernel_rfl) (by kernel_rfl) (by kernel_rfl) (by kernel_rfl) fun base η w vs hM hr => by
    simp only [RepL, Rep] at hr
    obtain ⟨_, _, rfl, ⟨_, rfl, ⟨_, _, rfl, rfl, _, _, rfl, ⟨q, hq, rfl⟩, _, _, rfl, rfl, rfl⟩, _⟩, _, _, rfl, ⟨_, rfl, ⟨_, _, rfl, rfl, _, _, rfl, ⟨p, hp, rfl⟩, _, _, rfl, rfl, rfl⟩, _⟩, rfl⟩ := hr
    obtain ⟨us, g1, g2, g3⟩ := hM.box b _ _ q hb hq
    obtain ⟨us', k1, k2, k3⟩ := hM.box a _ _ p ha hp
    simp only [RepL] at g2
    obtain ⟨x, _, rfl, hx, rfl⟩ := g2
    simp only [RepL] at k2
    obtain ⟨y, _, rfl, hy, rfl⟩ := k2
    have hy0 := hy
    simp only [Rep] at hy
    obtain ⟨c, hc0, rfl⟩ := hy
    have hc : w.cell? ⟨p, 0, none⟩ = some (.pointer (some ⟨c, off, none⟩)) := by simp [World.cell?, k1]
    have G := goes_set hM (cs' := [.loc k off]) (vs' := [_]) hb hq rfl (by simp only [RepL]; exact ⟨_, _, rfl, hy0, rfl⟩) k3
    exact ⟨_, _, _, _, _, setAt g1 hc, h, by simp only [Rep, RepL]; exact ⟨[], rfl, rfl⟩, G⟩
end Go.Proofs.YtbcabejdchkpmaaDoor

namespace Go.Proofs.YtbcabejdchkpmaaDoor
open Go.RowKit
@[go_sem] theorem bnil_eq (k : Nat) : dbin Tryd.prog .eql 35 (.tmp k) (.const .nilIface) (.v .nilIface) (.v .nilIface) = some (True, .v (.bool true)) := by kernel_rfl
@[go_sem] theorem bnil_ne (k : Nat) : dbin Tryd.prog .neq 35 (.tmp k) (.const .nilIface) (.v .nilIface) (.v .nilIface) = some (True, .v (.bool false)) := by kernel_rfl
@[go_sem] theorem bpnil_eq (k : Nat) : dbin Tryd.prog .eql 91 (.tmp k) (.const (.pointer none)) (.v (.pointer none)) (.v (.pointer none)) = some (True, .v (.bool true)) := by kernel_rfl
@[go_sem] theorem bpnil_ne (k : Nat) : dbin Tryd.prog .neq 91 (.tmp k) (.const (.pointer none)) (.v (.pointer none)) (.v (.pointer none)) = some (True, .v (.bool false)) := by kernel_rfl
theorem dat_of_dwp {P : Program} (hm : P.follows .mixedOrders = true) {g : FuncId} {fn : Func} {c : Code} (hf : P.funcs[g]? = some fn) (hb : fn.body = some c) (hent : ∀ vs w, (callFunc g vs).run P w = .ok (.enter g vs) w) {rs : List ResultVar} (hrs : fn.results.toList = rs) {args : List D} (hok : (codeOk fn.ntmps c && fn.results.all (resOk fn.ntmps) && Nat.ble args.length fn.ntmps) = true) {d : D} (hc : d.closed) {S : St}
    (h : S.WF → dwp P c (DQ.pfin P rs S d) (argF args) S) : DAt P g args S d :=
  dcalls_of_dwp hm hf hb hent hrs hok fun hw => dwp_mono c (pfin_fin hw hc) (h hw)
theorem Chain.fn {S : St} {ps : List Int} {n : Int} {d : D} (hc : Chain S ps n d) : ∃ e : Nat → D, e 0 = d ∧ e ps.length = erD n ∧ ∀ i (h : i < ps.length), ∃ k, e i = atD k ∧ S.ob k = some (.box 93 [.v (.int .i64 ps[i]), e (i + 1)]) := by
  induction hc with
  | code n => exact ⟨fun _ => erD n, rfl, rfl, fun i h => absurd h (Nat.not_lt_zero _)⟩
  | @at_ p ps n k d hk _ ih =>
    obtain ⟨e, e0, en, h⟩ := ih
    refine ⟨fun i => match i with | 0 => atD k | i + 1 => e i, rfl, en, fun i hi => ?_⟩
    cases i with
    | zero => exact ⟨k, rfl, by rw [hk, ← e0]; rfl⟩
    | succ i => exact h i (Nat.lt_of_succ_lt_succ hi)
theorem unwrap_at {S : St} {K : D → St → Prop} {k : Nat} {p d : D} (hp : p.width = 1) (hk : S.ob k = some (.box 93 [p, d])) (h : K d S) : DCalls Tryd.prog 124 [.loc k 0] S K := by
  refine dcalls_inline mixed Tryd.func124 rfl (fun _ _ => by kernel_rfl) (rs := [.tmp 2]) rfl (by kernel_rfl) (fun hS => ?_)
  (simp (disch := first | decide | omega | (simp only [nx]; first | done | omega)) only [go_sem, hk]; (repeat with_reducible refine aI ?_))
  exact h
set_option maxRecDepth 200000 in
set_option maxHeartbeats 4000000 in
theorem asWalkEr {S : St} {ps : List Int} {n : Int} {d x0 : D} {kb kc : Nat} {K : D → St → Prop} (hc : Chain S ps n d) (hk : S.ob kc = some (.box 25 [x0])) (hb : S.ob kb = some (.box 88 [.loc kc 0])) (hl : ps.length < 1000000)
    (h : ∀ T, S.next ≤ T.next → T.WF → (∀ j o, j ≠ kc → S.ob j = some o → T.ob j = some o) → T.ob kc = some (.box 25 [.v (.int .i64 n)]) → K (.v (.bool true)) T) :
    DCalls Tryd.prog 76 [d, .ifc 88 (.loc kc 0), .agg [.v (tyV 88), .loc kb 0, .v (.int .u64 150)], rtD 25] S K := by
  obtain ⟨e, e0, en, he⟩ := hc.fn
  refine dcalls_inline mixed Tryd.func76 rfl (fun _ _ => by kernel_rfl) (rs := [.tmp 8]) rfl (by kernel_rfl) (fun hS => ?_)
  (simp (disch := first | decide | omega | (simp only [nx]; first | done | omega)) only [go_sem]; (repeat with_reducible refine aI ?_))
  (refine dloop_st (fun t => List.contains [0, 8, 9, 10, 11, 12, 14, 15, 16, 17, 18, 19, 20, 21, 22, 23, 24, 25, 26, 27, 28, 29, 30, 31, 32, 33, 34, 35, 36, 37, 38, 39, 40, 41, 42, 43, 44, 45, 46, 47, 48, 49, 50, 51, 52, 53, 54, 55, 56, 57, 58, 59, 60, 61] t) (by kernel_rfl) ?_ (ps.length) (fun i f => i ≤ ps.length ∧ f 0 = e i ∧ f 8 = .v (.bool false)) ?_ ?_; (exact (by (repeat' first | assumption | refine St.WF.leave ?_ _ | refine St.WF.add ?_ _ | refine St.WF.set ?_ ?_ _ | refine St.WF.grow ?_ _ _ _ | refine St.WF.keep ?_ ?_ | (first | omega | (simp only [RowOk.lo, nx]; first | done | omega))))); (exact ⟨(by omega), (by (first | (simp (disch := first | decide | omega | (simp only [nx]; first | done | omega)) only [go_sem, e0]; first | done | rfl) | rfl)), (by (first | (simp (disch := first | decide | omega | (simp only [nx]; first | done | omega)) only [go_sem, e0]; first | done | rfl) | rfl))⟩); intro i g tn hn hT hg hI; obtain ⟨le, q0, q8⟩ := hI; have q1 := hg 1 rfl; have q3 := hg 3 rfl; have q6 := hg 6 rfl; simp (disch := first | decide | omega | (simp only [nx]; first | done | omega)) only [go_sem, e0] at q1 q3 q6; clear hg; have hn' := hn; try simp only [add_next, set_next, grow_next, leave_next, drop_next] at hn')
  have hB : ∀ j o, S.ob j = some o → (St.mk tn (S.add (.box 107 [.v (tyV 88), .loc kb 0, .v (.int .u64 150)])).ob).ob j = some o := fun j o ho => by
    have hkl := hS.lt ho
    show (if j = S.next then _ else S.ob j) = _
    rw [if_neg (by omega), ho]
  by_cases hlt : i < ps.length
  · obtain ⟨k, ek, hok⟩ := he i hlt
    rw [ek] at q0
    (simp (disch := first | decide | omega | (simp only [nx]; first | done | omega)) only [go_sem, q0, q1, q3, q6]; (repeat with_reducible refine aI ?_))
    refine rlTypeOfAt ?_
    (simp (disch := first | decide | omega | (simp only [nx]; first | done | omega)) only [go_sem, q0, q1, q3, q6]; (repeat with_reducible refine aI ?_))
    refine dinvoke_mk methAsgAt (rlAsgAtEr ?_)
    (simp (disch := first | decide | omega | (simp only [nx]; first | done | omega)) only [go_sem, q0, q1, q3, q6]; (repeat with_reducible refine aI ?_))
    refine asrAtAs ?_
    (simp (disch := first | decide | omega | (simp only [nx]; first | done | omega)) only [go_sem, q0, q1, q3, q6]; (repeat with_reducible refine aI ?_))
    refine asrAtUn ?_
    (simp (disch := first | decide | omega | (simp only [nx]; first | done | omega)) only [go_sem, q0, q1, q3, q6]; (repeat with_reducible refine aI ?_))
    obtain ⟨t', u', eu⟩ : ∃ t u, e (i + 1) = .ifc t u := by
      by_cases h2 : i + 1 < ps.length
      · obtain ⟨k', ek', _⟩ := he (i + 1) h2
        exact ⟨_, _, ek'⟩
      · rw [show i + 1 = ps.length by omega, en]; exact ⟨_, _, rfl⟩
    refine dinvoke_mk methUn (unwrap_at rfl (hB _ _ hok) ?_)
    (simp (disch := first | decide | omega | (simp only [nx]; first | done | omega)) only [go_sem, q0, eu, q1, q3, q6]; (repeat with_reducible refine aI ?_))
    (refine ⟨by omega, (by (repeat' first | assumption | exact St.Sub.refl _ | exact RowOk.sub (by assumption) (by assumption) | refine St.Sub.trans ?_ (RowOk.sub (by assumption) (by assumption)) | refine St.Sub.add ?_ ?_ _ | refine St.Sub.set ?_ ?_ ?_ _ | refine St.Sub.keep ?_ ?_ | refine St.WF.leave ?_ _ | refine St.WF.add ?_ _ | refine St.WF.set ?_ ?_ _ | refine St.WF.grow ?_ _ _ _ | refine St.WF.keep ?_ ?_ | (first | omega | (simp only [RowOk.lo, nx]; first | done | omega)))), ?_⟩; refine ⟨by omega, ?_, ?_⟩; all_goals (try (first | (simp (disch := first | decide | omega | (simp only [nx]; first | done | omega)) only [go_sem, eu, q8]; first | done | rfl) | rfl)))
  · have hil : i = ps.length := by omega
    subst hil
    rw [en] at q0
    (simp (disch := first | decide | omega | (simp only [nx]; first | done | omega)) only [go_sem, q0, q1, q3, q6]; (repeat with_reducible refine aI ?_))
    refine rlTypeOfEr ?_
    (simp (disch := first | decide | omega | (simp only [nx]; first | done | omega)) only [go_sem, q0, q1, q3, q6]; (repeat with_reducible refine aI ?_))
    refine dinvoke_mk methAsgEr (rlAsgEr ?_)
    (simp (disch := first | decide | omega | (simp only [nx]; first | done | omega)) only [go_sem, q0, q1, q3, q6]; (repeat with_reducible refine aI ?_))
    refine rlElemPEr (hB _ _ hb) ?_
    (simp (disch := first | decide | omega | (simp only [nx]; first | done | omega)) only [go_sem, q0, q1, q3, q6]; (repeat with_reducible refine aI ?_))
    refine rlValueOfEr ?_
    (simp (disch := first | decide | omega | (simp only [nx]; first | done | omega)) only [go_sem, q0, q1, q3, q6]; (repeat with_reducible refine aI ?_))
    have hkc := hS.lt hk
    have hkn : kc ≠ tn := by omega
    refine rlSetEr (d0 := x0) (n := n) ?_ ?_ ?_
    · show (if kc = tn then _ else _) = _
      rw [if_neg hkn]; exact hB _ _ hk
    · show (if tn = tn then _ else _) = _
      rw [if_pos rfl]
    (simp (disch := first | decide | omega | (simp only [nx]; first | done | omega)) only [go_sem, q0, q1, q3, q6]; (repeat with_reducible refine aI ?_))
    refine h _ ?_ ?_ (fun j o hj ho => ?_) ?_
    · show S.next ≤ tn + 1
      omega
    · exact (by (repeat' first | assumption | refine St.WF.leave ?_ _ | refine St.WF.add ?_ _ | refine St.WF.set ?_ ?_ _ | refine St.WF.grow ?_ _ _ _ | refine St.WF.keep ?_ ?_ | (first | omega | (simp only [RowOk.lo, nx]; first | done | omega))))
    · show (if j = kc then _ else if j = tn then _ else _) = _
      have := hS.lt ho
      rw [if_neg hj, if_neg (by omega)]; exact hB _ _ ho
    · show (if kc = kc then _ else _) = _
      rw [if_pos rfl]
set_option maxRecDepth 200000 in
set_option maxHeartbeats 4000000 in
theorem asEr {S : St} {ps : List Int} {n : Int} {d x0 : D} {kc : Nat} {K : D → St → Prop} (hc : Chain S ps n d) (hk : S.ob kc = some (.box 25 [x0])) (hl : ps.length < 1000000)
    (h : ∀ T, S.next ≤ T.next → T.WF → (∀ j o, j ≠ kc → S.ob j = some o → T.ob j = some o) → T.ob kc = some (.box 25 [.v (.int .i64 n)]) → K (.v (.bool true)) T) :
    DCalls Tryd.prog 61 [d, .ifc 88 (.loc kc 0)] S K := by
  have hne : ∃ t u, d = .ifc t u := by cases hc <;> exact ⟨_, _, rfl⟩
  obtain ⟨t, u, rfl⟩ := hne
  refine dcalls_inline mixed Tryd.func61 rfl (fun _ _ => by kernel_rfl) (rs := [.tmp 4]) rfl (by kernel_rfl) (fun hS => ?_)
  (simp (disch := first | decide | omega | (simp only [nx]; first | done | omega)) only [go_sem]; (repeat with_reducible refine aI ?_))
  refine rlValueOfPEr ?_
  (simp (disch := first | decide | omega | (simp only [nx]; first | done | omega)) only [go_sem]; (repeat with_reducible refine aI ?_))
  refine rlTypePEr ?_
  (simp (disch := first | decide | omega | (simp only [nx]; first | done | omega)) only [go_sem]; (repeat with_reducible refine aI ?_))
  have k22 : ((22 : Int) != 22) = false := by decide
  have k20 : ((2 : Int) != 20) = true := by decide
  refine dinvoke_mk methKindPEr (rlKindPEr ?_)
  (simp (disch := first | decide | omega | (simp only [nx]; first | done | omega)) only [go_sem, k22]; (repeat with_reducible refine aI ?_))
  refine rlIsNilPEr (k := kc) (off := 0) ?_ ?_
  · (first | (simp (disch := first | decide | omega | (simp only [nx]; first | done | omega)) only [go_sem]; first | done | rfl) | rfl)
  (simp (disch := first | decide | omega | (simp only [nx]; first | done | omega)) only [go_sem, k22]; (repeat with_reducible refine aI ?_))
  refine dinvoke_mk methElemPEr (rlTElemPEr ?_)
  (simp (disch := first | decide | omega | (simp only [nx]; first | done | omega)) only [go_sem]; (repeat with_reducible refine aI ?_))
  refine dinvoke_mk methKindEr (rlKindEr ?_)
  (simp (disch := first | decide | omega | (simp only [nx]; first | done | omega)) only [go_sem, k20]; (repeat with_reducible refine aI ?_))
  refine dinvoke_mk methImplEr (rlImplEr ?_)
  (simp (disch := first | decide | omega | (simp only [nx]; first | done | omega)) only [go_sem]; (repeat with_reducible refine aI ?_))
  have hkc := hS.lt hk
  have hB : ∀ j o, S.ob j = some o → (((S.add (.box 88 [.loc kc 0])).add (.box 107 [.v (.pointer none), .v (.pointer none), .v (.int .u64 0)])).set (S.next + 1) (.box 107 [.v (tyV 88), .loc S.next 0, .v (.int .u64 150)])).ob j = some o := fun j o ho => by
    have hkl := hS.lt ho
    show (if j = S.next + 1 then _ else if j = S.next + 1 then _ else if j = S.next then _ else S.ob j) = _
    rw [if_neg (by omega), if_neg (by omega), if_neg (by omega), ho]
  refine asWalkEr (hc.mono fun k cs hq => hB _ _ hq) (hB _ _ hk) (kb := S.next) ?_ hl fun T t1 t2 t3 t4 => ?_
  · (first | (simp (disch := first | decide | omega | (simp only [nx]; first | done | omega)) only [go_sem]; first | done | rfl) | rfl)
  (simp (disch := first | decide | omega | (simp only [nx]; first | done | omega)) only [go_sem]; (repeat with_reducible refine aI ?_))
  exact h T (by have : S.next + 1 + 1 ≤ T.next := t1; omega) t2 (fun j o hj ho => t3 j o hj (hB _ _ ho)) t4
end Go.Proofs.YtbcabejdchkpmaaDoor

namespace Go.Proofs.YtbcabejdchkpmaaDoor
open Go.RowKit
set_option maxRecDepth 200000 in
set_option maxHeartbeats 4000000 in
theorem asWalkAt {S : St} {x0 : D} {kb kc : Nat} {K : D → St → Prop} {k off : Nat} (hk : S.ob kc = some (.box 91 [x0])) (hb : S.ob kb = some (.box 118 [.loc kc 0]))
    (h : ∀ T, S.next ≤ T.next → T.WF → (∀ j o, j ≠ kc → S.ob j = some o → T.ob j = some o) → T.ob kc = some (.box 91 [.loc k off]) → K (.v (.bool true)) T) :
    DCalls Tryd.prog 76 [.ifc 91 (.loc k off), .ifc 118 (.loc kc 0), .agg [.v (tyV 118), .loc kb 0, .v (.int .u64 150)], rtD 91] S K := by
  refine dcalls_inline mixed Tryd.func76 rfl (fun _ _ => by kernel_rfl) (rs := [.tmp 8]) rfl (by kernel_rfl) (fun hS => ?_)
  (simp (disch := first | decide | omega | (simp only [nx]; first | done | omega)) only [go_sem]; (repeat with_reducible refine aI ?_))
  (refine dloop_st (fun t => List.contains [0, 8, 9, 10, 11, 12, 14, 15, 16, 17, 18, 19, 20, 21, 22, 23, 24, 25, 26, 27, 28, 29, 30, 31, 32, 33, 34, 35, 36, 37, 38, 39, 40, 41, 42, 43, 44, 45, 46, 47, 48, 49, 50, 51, 52, 53, 54, 55, 56, 57, 58, 59, 60, 61] t) (by kernel_rfl) ?_ (0) (fun i f => i ≤ 0 ∧ f 0 = .ifc 91 (.loc k off) ∧ f 8 = .v (.bool false)) ?_ ?_; (exact (by (repeat' first | assumption | refine St.WF.leave ?_ _ | refine St.WF.add ?_ _ | refine St.WF.set ?_ ?_ _ | refine St.WF.grow ?_ _ _ _ | refine St.WF.keep ?_ ?_ | (first | omega | (simp only [RowOk.lo, nx]; first | done | omega))))); (exact ⟨(by omega), (by (first | (simp (disch := first | decide | omega | (simp only [nx]; first | done | omega)) only [go_sem]; first | done | rfl) | rfl)), (by (first | (simp (disch := first | decide | omega | (simp only [nx]; first | done | omega)) only [go_sem]; first | done | rfl) | rfl))⟩); intro i g tn hn hT hg hI; obtain ⟨le, q0, q8⟩ := hI; have q1 := hg 1 rfl; have q3 := hg 3 rfl; have q6 := hg 6 rfl; simp (disch := first | decide | omega | (simp only [nx]; first | done | omega)) only [go_sem] at q1 q3 q6; clear hg; have hn' := hn; try simp only [add_next, set_next, grow_next, leave_next, drop_next] at hn')
  have hB : ∀ j o, S.ob j = some o → (St.mk tn (S.add (.box 107 [.v (tyV 118), .loc kb 0, .v (.int .u64 150)])).ob).ob j = some o := fun j o ho => by
    have hkl := hS.lt ho
    show (if j = S.next then _ else S.ob j) = _
    rw [if_neg (by omega), ho]
  (simp (disch := first | decide | omega | (simp only [nx]; first | done | omega)) only [go_sem, q0, q1, q3, q6]; (repeat with_reducible refine aI ?_))
  refine rlTypeOfAt ?_
  (simp (disch := first | decide | omega | (simp only [nx]; first | done | omega)) only [go_sem, q0, q1, q3, q6]; (repeat with_reducible refine aI ?_))
  refine dinvoke_mk methAsgAt (rlAsgAt ?_)
  (simp (disch := first | decide | omega | (simp only [nx]; first | done | omega)) only [go_sem, q0, q1, q3, q6]; (repeat with_reducible refine aI ?_))
  refine rlElemPAt (hB _ _ hb) ?_
  (simp (disch := first | decide | omega | (simp only [nx]; first | done | omega)) only [go_sem, q0, q1, q3, q6]; (repeat with_reducible refine aI ?_))
  refine rlValueOfAt ?_
  (simp (disch := first | decide | omega | (simp only [nx]; first | done | omega)) only [go_sem, q0, q1, q3, q6]; (repeat with_reducible refine aI ?_))
  have hkc := hS.lt hk
  have hkn : kc ≠ tn := by omega
  refine rlSetAt (d0 := x0) (k := k) (off := off) ?_ ?_ ?_
  · show (if kc = tn then _ else _) = _
    rw [if_neg hkn]; exact hB _ _ hk
  · show (if tn = tn then _ else _) = _
    rw [if_pos rfl]
  (simp (disch := first | decide | omega | (simp only [nx]; first | done | omega)) only [go_sem, q0, q1, q3, q6]; (repeat with_reducible refine aI ?_))
  refine h _ ?_ ?_ (fun j o hj ho => ?_) ?_
  · show S.next ≤ tn + 1
    omega
  · exact (by (repeat' first | assumption | refine St.WF.leave ?_ _ | refine St.WF.add ?_ _ | refine St.WF.set ?_ ?_ _ | refine St.WF.grow ?_ _ _ _ | refine St.WF.keep ?_ ?_ | (first | omega | (simp only [RowOk.lo, nx]; first | done | omega))))
  · show (if j = kc then _ else if j = tn then _ else _) = _
    have := hS.lt ho
    rw [if_neg hj, if_neg (by omega)]; exact hB _ _ ho
  · show (if kc = kc then _ else _) = _
    rw [if_pos rfl]
set_option maxRecDepth 200000 in
set_option maxHeartbeats 4000000 in
theorem asMissAt {S : St} {x0 : D} {kb kc : Nat} {K : D → St → Prop} {n : Int} (hk : S.ob kc = some (.box 91 [x0])) (hb : S.ob kb = some (.box 118 [.loc kc 0]))
    (h : ∀ T, S.next ≤ T.next → T.WF → (∀ j o, S.ob j = some o → T.ob j = some o) → K (.v (.bool false)) T) :
    DCalls Tryd.prog 76 [erD n, .ifc 118 (.loc kc 0), .agg [.v (tyV 118), .loc kb 0, .v (.int .u64 150)], rtD 91] S K := by
  refine dcalls_inline mixed Tryd.func76 rfl (fun _ _ => by kernel_rfl) (rs := [.tmp 8]) rfl (by kernel_rfl) (fun hS => ?_)
  (simp (disch := first | decide | omega | (simp only [nx]; first | done | omega)) only [go_sem]; (repeat with_reducible refine aI ?_))
  (refine dloop_st (fun t => List.contains [0, 8, 9, 10, 11, 12, 14, 15, 16, 17, 18, 19, 20, 21, 22, 23, 24, 25, 26, 27, 28, 29, 30, 31, 32, 33, 34, 35, 36, 37, 38, 39, 40, 41, 42, 43, 44, 45, 46, 47, 48, 49, 50, 51, 52, 53, 54, 55, 56, 57, 58, 59, 60, 61] t) (by kernel_rfl) ?_ (0) (fun i f => i ≤ 0 ∧ f 0 = erD n ∧ f 8 = .v (.bool false)) ?_ ?_; (exact (by (repeat' first | assumption | refine St.WF.leave ?_ _ | refine St.WF.add ?_ _ | refine St.WF.set ?_ ?_ _ | refine St.WF.grow ?_ _ _ _ | refine St.WF.keep ?_ ?_ | (first | omega | (simp only [RowOk.lo, nx]; first | done | omega))))); (exact ⟨(by omega), (by (first | (simp (disch := first | decide | omega | (simp only [nx]; first | done | omega)) only [go_sem]; first | done | rfl) | rfl)), (by (first | (simp (disch := first | decide | omega | (simp only [nx]; first | done | omega)) only [go_sem]; first | done | rfl) | rfl))⟩); intro i g tn hn hT hg hI; obtain ⟨le, q0, q8⟩ := hI; have q1 := hg 1 rfl; have q3 := hg 3 rfl; have q6 := hg 6 rfl; simp (disch := first | decide | omega | (simp only [nx]; first | done | omega)) only [go_sem] at q1 q3 q6; clear hg; have hn' := hn; try simp only [add_next, set_next, grow_next, leave_next, drop_next] at hn')
  have hB : ∀ j o, S.ob j = some o → (St.mk tn (S.add (.box 107 [.v (tyV 118), .loc kb 0, .v (.int .u64 150)])).ob).ob j = some o := fun j o ho => by
    have hkl := hS.lt ho
    show (if j = S.next then _ else S.ob j) = _
    rw [if_neg (by omega), ho]
  (simp (disch := first | decide | omega | (simp only [nx]; first | done | omega)) only [go_sem, q0, q1, q3, q6]; (repeat with_reducible refine aI ?_))
  refine rlTypeOfEr ?_
  (simp (disch := first | decide | omega | (simp only [nx]; first | done | omega)) only [go_sem, q0, q1, q3, q6]; (repeat with_reducible refine aI ?_))
  refine dinvoke_mk methAsgEr (rlAsgErAt ?_)
  (simp (disch := first | decide | omega | (simp only [nx]; first | done | omega)) only [go_sem, q0, q1, q3, q6]; (repeat with_reducible refine aI ?_))
  refine asrErAs ?_
  (simp (disch := first | decide | omega | (simp only [nx]; first | done | omega)) only [go_sem, q0, q1, q3, q6]; (repeat with_reducible refine aI ?_))
  refine asrErUn ?_
  (simp (disch := first | decide | omega | (simp only [nx]; first | done | omega)) only [go_sem, q0, q1, q3, q6]; (repeat with_reducible refine aI ?_))
  refine asrErUs ?_
  (simp (disch := first | decide | omega | (simp only [nx]; first | done | omega)) only [go_sem, q0, q1, q3, q6]; (repeat with_reducible refine aI ?_))
  exact h _ (by show S.next ≤ tn; omega) hT (fun j o ho => hB _ _ ho)
set_option maxRecDepth 200000 in
set_option maxHeartbeats 4000000 in
theorem asAt {S : St} {x0 : D} {kc : Nat} {K : D → St → Prop} {k off : Nat} (hk : S.ob kc = some (.box 91 [x0]))
    (h : ∀ T, S.next ≤ T.next → T.WF → (∀ j o, j ≠ kc → S.ob j = some o → T.ob j = some o) → T.ob kc = some (.box 91 [.loc k off]) → K (.v (.bool true)) T) :
    DCalls Tryd.prog 61 [.ifc 91 (.loc k off), .ifc 118 (.loc kc 0)] S K := by
  refine dcalls_inline mixed Tryd.func61 rfl (fun _ _ => by kernel_rfl) (rs := [.tmp 4]) rfl (by kernel_rfl) (fun hS => ?_)
  (simp (disch := first | decide | omega | (simp only [nx]; first | done | omega)) only [go_sem]; (repeat with_reducible refine aI ?_))
  refine rlValueOfPAt ?_
  (simp (disch := first | decide | omega | (simp only [nx]; first | done | omega)) only [go_sem]; (repeat with_reducible refine aI ?_))
  refine rlTypePAt ?_
  (simp (disch := first | decide | omega | (simp only [nx]; first | done | omega)) only [go_sem]; (repeat with_reducible refine aI ?_))
  have k22 : ((22 : Int) != 22) = false := by decide
  have k20 : ((22 : Int) != 20) = true := by decide
  refine dinvoke_mk methKindPAt (rlKindPAt ?_)
  (simp (disch := first | decide | omega | (simp only [nx]; first | done | omega)) only [go_sem, k22]; (repeat with_reducible refine aI ?_))
  refine rlIsNilPAt (k := kc) (off := 0) ?_ ?_
  · (first | (simp (disch := first | decide | omega | (simp only [nx]; first | done | omega)) only [go_sem]; first | done | rfl) | rfl)
  (simp (disch := first | decide | omega | (simp only [nx]; first | done | omega)) only [go_sem, k22]; (repeat with_reducible refine aI ?_))
  refine dinvoke_mk methElemPAt (rlTElemPAt ?_)
  (simp (disch := first | decide | omega | (simp only [nx]; first | done | omega)) only [go_sem]; (repeat with_reducible refine aI ?_))
  refine dinvoke_mk methKindAt (rlKindAt ?_)
  (simp (disch := first | decide | omega | (simp only [nx]; first | done | omega)) only [go_sem, k20]; (repeat with_reducible refine aI ?_))
  refine dinvoke_mk methImplAt (rlImplAt ?_)
  (simp (disch := first | decide | omega | (simp only [nx]; first | done | omega)) only [go_sem]; (repeat with_reducible refine aI ?_))
  have hkc := hS.lt hk
  have hB : ∀ j o, S.ob j = some o → (((S.add (.box 118 [.loc kc 0])).add (.box 107 [.v (.pointer none), .v (.pointer none), .v (.int .u64 0)])).set (S.next + 1) (.box 107 [.v (tyV 118), .loc S.next 0, .v (.int .u64 150)])).ob j = some o := fun j o ho => by
    have hkl := hS.lt ho
    show (if j = S.next + 1 then _ else if j = S.next + 1 then _ else if j = S.next then _ else S.ob j) = _
    rw [if_neg (by omega), if_neg (by omega), if_neg (by omega), ho]
  refine asWalkAt (hB _ _ hk) (kb := S.next) ?_ fun T t1 t2 t3 t4 => ?_
  · (first | (simp (disch := first | decide | omega | (simp only [nx]; first | done | omega)) only [go_sem]; first | done | rfl) | rfl)
  (simp (disch := first | decide | omega | (simp only [nx]; first | done | omega)) only [go_sem]; (repeat with_reducible refine aI ?_))
  exact h T (by have : S.next + 1 + 1 ≤ T.next := t1; omega) t2 (fun j o hj ho => t3 j o hj (hB _ _ ho)) t4
set_option maxRecDepth 200000 in
set_option maxHeartbeats 4000000 in
theorem asNoAt {S : St} {x0 : D} {kc : Nat} {K : D → St → Prop} {n : Int} (hk : S.ob kc = some (.box 91 [x0]))
    (h : ∀ T, S.next ≤ T.next → T.WF → (∀ j o, S.ob j = some o → T.ob j = some o) → K (.v (.bool false)) T) :
    DCalls Tryd.prog 61 [erD n, .ifc 118 (.loc kc 0)] S K := by
  refine dcalls_inline mixed Tryd.func61 rfl (fun _ _ => by kernel_rfl) (rs := [.tmp 4]) rfl (by kernel_rfl) (fun hS => ?_)
  (simp (disch := first | decide | omega | (simp only [nx]; first | done | omega)) only [go_sem]; (repeat with_reducible refine aI ?_))
  refine rlValueOfPAt ?_
  (simp (disch := first | decide | omega | (simp only [nx]; first | done | omega)) only [go_sem]; (repeat with_reducible refine aI ?_))
  refine rlTypePAt ?_
  (simp (disch := first | decide | omega | (simp only [nx]; first | done | omega)) only [go_sem]; (repeat with_reducible refine aI ?_))
  have k22 : ((22 : Int) != 22) = false := by decide
  have k20 : ((22 : Int) != 20) = true := by decide
  refine dinvoke_mk methKindPAt (rlKindPAt ?_)
  (simp (disch := first | decide | omega | (simp only [nx]; first | done | omega)) only [go_sem, k22]; (repeat with_reducible refine aI ?_))
  refine rlIsNilPAt (k := kc) (off := 0) ?_ ?_
  · (first | (simp (disch := first | decide | omega | (simp only [nx]; first | done | omega)) only [go_sem]; first | done | rfl) | rfl)
  (simp (disch := first | decide | omega | (simp only [nx]; first | done | omega)) only [go_sem, k22]; (repeat with_reducible refine aI ?_))
  refine dinvoke_mk methElemPAt (rlTElemPAt ?_)
  (simp (disch := first | decide | omega | (simp only [nx]; first | done | omega)) only [go_sem]; (repeat with_reducible refine aI ?_))
  refine dinvoke_mk methKindAt (rlKindAt ?_)
  (simp (disch := first | decide | omega | (simp only [nx]; first | done | omega)) only [go_sem, k20]; (repeat with_reducible refine aI ?_))
  refine dinvoke_mk methImplAt (rlImplAt ?_)
  (simp (disch := first | decide | omega | (simp only [nx]; first | done | omega)) only [go_sem]; (repeat with_reducible refine aI ?_))
  have hkc := hS.lt hk
  have hB : ∀ j o, S.ob j = some o → (((S.add (.box 118 [.loc kc 0])).add (.box 107 [.v (.pointer none), .v (.pointer none), .v (.int .u64 0)])).set (S.next + 1) (.box 107 [.v (tyV 118), .loc S.next 0, .v (.int .u64 150)])).ob j = some o := fun j o ho => by
    have hkl := hS.lt ho
    show (if j = S.next + 1 then _ else if j = S.next + 1 then _ else if j = S.next then _ else S.ob j) = _
    rw [if_neg (by omega), if_neg (by omega), if_neg (by omega), ho]
  refine asMissAt (hB _ _ hk) (kb := S.next) ?_ fun T t1 t2 t3 => ?_
  · (first | (simp (disch := first | decide | omega | (simp only [nx]; first | done | omega)) only [go_sem]; first | done | rfl) | rfl)
  (simp (disch := first | decide | omega | (simp only [nx]; first | done | omega)) only [go_sem]; (repeat with_reducible refine aI ?_))
  exact h T (by have : S.next + 1 + 1 ≤ T.next := t1; omega) t2 (fun j o ho => t3 j o (hB _ _ ho))
end Go.Proofs.YtbcabejdchkpmaaDoor

namespace Go.Proofs.YtbcabejdchkpmaaDoor
open Go.RowKit
theorem pfin_finA {P : Program} {rs : List ResultVar} {S : St} {d : D} (hw : S.WF) (hc : d.all (· < S.next)) : ∀ e f S', DQ.pfin P rs S d e f S' → DQ.fin P rs S (fun d' T => d' = d ∧ T = S) e f S' := by
  have key : ∀ f S', dresL P f S' rs (fun ds => PFin S S' (one ds) d) → dresL P f S' rs (fun ds => DFinT P S S' (one ds) fun d' T => d' = d ∧ T = S) := fun f S' h =>
    dresL_mono (fun ds ⟨h1, h2⟩ => DFin.t ⟨d, S, h1 ▸ DLe.frz _, hc, h2.next, Nat.le_refl _, fun k o hk => ⟨h2.ob k o hk, hw.lt hk, fun _ _ _ => .inl hk⟩, rfl, rfl⟩) h
  intro e f S' h
  cases e with
  | normal => exact key f S' h
  | ret => exact key f S' h
  | exit i => exact h
theorem dat_of_dwpA {P : Program} (hm : P.follows .mixedOrders = true) {g : FuncId} {fn : Func} {c : Code} (hf : P.funcs[g]? = some fn) (hb : fn.body = some c) (hent : ∀ vs w, (callFunc g vs).run P w = .ok (.enter g vs) w) {rs : List ResultVar} (hrs : fn.results.toList = rs) {args : List D} (hok : (codeOk fn.ntmps c && fn.results.all (resOk fn.ntmps) && Nat.ble args.length fn.ntmps) = true) {d : D} {S : St} (hc : S.WF → d.all (· < S.next))
    (h : S.WF → dwp P c (DQ.pfin P rs S d) (argF args) S) : DAt P g args S d :=
  dcalls_of_dwp hm hf hb hent hrs hok fun hw => dwp_mono c (pfin_finA hw (hc hw)) (h hw)
theorem DAt.go {P : Program} {g : FuncId} {args : List D} {S : St} {d : D} {K : D → St → Prop} (h : DAt P g args S d) (k : K d S) : DCalls P g args S K := h.mono fun _ _ hq => by rw [hq.1, hq.2]; exact k
section
variable {S : St}
theorem outer_at {k : Nat} {o : Ob} (hk : S.ob k = some o) : DAt Tryd.prog 64 [atD k] S (.loc k 0) := by
  refine dat_of_dwpA (d := .loc k 0) mixed Tryd.func64 rfl (fun _ _ => by kernel_rfl) (rs := [.tmp 2]) rfl (by kernel_rfl) (fun hS => hS.lt hk) (fun hS => ?_)
  (simp (disch := first | decide | omega | (simp only [nx]; first | done | omega)) only [go_sem]; (repeat with_reducible refine aI ?_))
  refine asAt (x0 := .v (.pointer none)) ?_ fun T t1 t2 t3 t4 => ?_
  · show (if S.next = S.next then _ else _) = _
    rw [if_pos rfl]
  (simp (disch := first | decide | omega | (simp only [nx]; first | done | omega)) only [go_sem, t4]; (repeat with_reducible refine aI ?_))
  have hsub : S.Sub T := ⟨by have : S.next + 1 ≤ T.next := t1; omega, fun j o ho => t3 j o (by have := hS.lt ho; omega) (by have := hS.lt ho; show (if j = S.next then _ else _) = _; rw [if_neg (by omega), ho])⟩
  refine ⟨?_, (by (repeat' first | assumption | exact St.Sub.refl _ | exact RowOk.sub (by assumption) (by assumption) | refine St.Sub.trans ?_ (RowOk.sub (by assumption) (by assumption)) | refine St.Sub.add ?_ ?_ _ | refine St.Sub.set ?_ ?_ ?_ _ | refine St.Sub.keep ?_ ?_ | refine St.WF.leave ?_ _ | refine St.WF.add ?_ _ | refine St.WF.set ?_ ?_ _ | refine St.WF.grow ?_ _ _ _ | refine St.WF.keep ?_ ?_ | (first | omega | (simp only [RowOk.lo, nx]; first | done | omega))))⟩
  rfl
theorem outer_no {n : Int} : DAt Tryd.prog 64 [erD n] S (.v (.pointer none)) := by
  refine dat_of_dwpA (d := .v (.pointer none)) mixed Tryd.func64 rfl (fun _ _ => by kernel_rfl) (rs := [.tmp 2]) rfl (by kernel_rfl) (fun hS => trivial) (fun hS => ?_)
  (simp (disch := first | decide | omega | (simp only [nx]; first | done | omega)) only [go_sem]; (repeat with_reducible refine aI ?_))
  refine asNoAt (x0 := .v (.pointer none)) ?_ fun T t1 t2 t3 => ?_
  · show (if S.next = S.next then _ else _) = _
    rw [if_pos rfl]
  (simp (disch := first | decide | omega | (simp only [nx]; first | done | omega)) only [go_sem]; (repeat with_reducible refine aI ?_))
  have hsub : S.Sub T := ⟨by have : S.next + 1 ≤ T.next := t1; omega, fun j o ho => t3 j o (by have := hS.lt ho; show (if j = S.next then _ else _) = _; rw [if_neg (by omega), ho])⟩
  refine ⟨?_, (by (repeat' first | assumption | exact St.Sub.refl _ | exact RowOk.sub (by assumption) (by assumption) | refine St.Sub.trans ?_ (RowOk.sub (by assumption) (by assumption)) | refine St.Sub.add ?_ ?_ _ | refine St.Sub.set ?_ ?_ ?_ _ | refine St.Sub.keep ?_ ?_ | refine St.WF.leave ?_ _ | refine St.WF.add ?_ _ | refine St.WF.set ?_ ?_ _ | refine St.WF.grow ?_ _ _ _ | refine St.WF.keep ?_ ?_ | (first | omega | (simp only [RowOk.lo, nx]; first | done | omega))))⟩
  rfl
theorem wrap_at {K : D → St → Prop} {t : TypeId} {u : D} {p : Int} (h : K (atD S.next) (S.add (.box 93 [.v (.int .i64 p), .ifc t u]))) : DCalls Tryd.prog 32 [.ifc t u, .v (.int .i64 p)] S K := by
  refine dcalls_inline mixed Tryd.func32 rfl (fun _ _ => by kernel_rfl) (rs := [.tmp 4]) rfl (by kernel_rfl) (fun hS => ?_)
  (simp (disch := first | decide | omega | (simp only [nx]; first | done | omega)) only [go_sem]; (repeat with_reducible refine aI ?_))
  exact h
def outP : List Int → Int
  | [] => -1
  | p :: _ => p
theorem place_at {ps : List Int} {n : Int} {d : D} (hc : Chain S ps n d) : DAt Tryd.prog 40 [d] S (.v (.int .i64 (outP ps))) := by
  refine dat_of_dwpA (d := .v (.int .i64 (outP ps))) mixed Tryd.func40 rfl (fun _ _ => by kernel_rfl) (rs := [.tmp 2]) rfl (by kernel_rfl) (fun hS => trivial) (fun hS => ?_)
  cases hc with
  | code n =>
    (simp (disch := first | decide | omega | (simp only [nx]; first | done | omega)) only [go_sem]; (repeat with_reducible refine aI ?_))
    refine outer_no.go ?_
    (simp (disch := first | decide | omega | (simp only [nx]; first | done | omega)) only [go_sem]; (repeat with_reducible refine aI ?_))
    refine ⟨?_, (by (repeat' first | assumption | exact St.Sub.refl _ | exact RowOk.sub (by assumption) (by assumption) | refine St.Sub.trans ?_ (RowOk.sub (by assumption) (by assumption)) | refine St.Sub.add ?_ ?_ _ | refine St.Sub.set ?_ ?_ ?_ _ | refine St.Sub.keep ?_ ?_ | refine St.WF.leave ?_ _ | refine St.WF.add ?_ _ | refine St.WF.set ?_ ?_ _ | refine St.WF.grow ?_ _ _ _ | refine St.WF.keep ?_ ?_ | (first | omega | (simp only [RowOk.lo, nx]; first | done | omega))))⟩
    rfl
  | at_ hk hq =>
    (simp (disch := first | decide | omega | (simp only [nx]; first | done | omega)) only [go_sem]; (repeat with_reducible refine aI ?_))
    refine (outer_at hk).go ?_
    (simp (disch := first | decide | omega | (simp only [nx]; first | done | omega)) only [go_sem, hk]; (repeat with_reducible refine aI ?_))
    refine ⟨?_, (by (repeat' first | assumption | exact St.Sub.refl _ | exact RowOk.sub (by assumption) (by assumption) | refine St.Sub.trans ?_ (RowOk.sub (by assumption) (by assumption)) | refine St.Sub.add ?_ ?_ _ | refine St.Sub.set ?_ ?_ ?_ _ | refine St.Sub.keep ?_ ?_ | refine St.WF.leave ?_ _ | refine St.WF.add ?_ _ | refine St.WF.set ?_ ?_ _ | refine St.WF.grow ?_ _ _ _ | refine St.WF.keep ?_ ?_ | (first | omega | (simp only [RowOk.lo, nx]; first | done | omega))))⟩
    rfl
end
end Go.Proofs.YtbcabejdchkpmaaDoor

namespace Go.Proofs.YtbcabejdchkpmaaDoor
open Go.ChangeShapes Go.WideShapes Go.ChangeAt Go.RowKit Go.Deep Go.Joins
section
variable {H : Type} {enc : TypeId × Value → H} {w : World}
theorem door_fix (P : Program) (b i : Nat) : Fix P door_st (fun _ => none) b i := fun _ _ h => by cases h
end
end Go.Proofs.YtbcabejdchkpmaaDoor

namespace Go.Proofs.YtbcabejdchkpmaaDoor
open Go.ChangeShapes Go.WideShapes Go.ChangeAt Go.RowKit Go.Deep Go.Joins
section
variable {H : Type} {enc : TypeId × Value → H} {w : World}
def IsU8 (w : World) (b o : Nat) (n : UInt8) : Prop := w.cell? ⟨b, o, none⟩ = some (.int .u8 (n.toNat : Int))
set_option maxRecDepth 20000 in
theorem open_u8s {v : Value} {d : DataW H} {p : List MemPlace} {W : World} {base : Nat} (h : DataW.Trod enc Tryd.prog w 0 (fun _ => true) true 30 v d p) (hs : Sized Tryd.prog 30 d) (hk : Value.okWide Tryd.prog W .any base 30 v) :
    ∃ l : List UInt8, l.length ≤ 140737488355328 ∧ ∀ (η : Names) (X : Nat → Nat → Prop), (∀ b i, X b i) → Rep Tryd.prog w η X (.sl .no (l.map bD)) v := by
  have elem : ∀ (fuel : Nat) (cs : List Value) (x : DataW H × List MemPlace) (b o : Nat), b < w.heap.size → DataW.trod enc Tryd.prog w 0 (fun _ => true) true fuel 5 cs = some x → Sized Tryd.prog 5 x.1 → cs.length = 1 → (∀ j u, cs[j]? = some u → w.cell? ⟨b, o + j, none⟩ = some u) → ∃ n, IsU8 w b o n := by
    intro fuel cs x b o _ h _ hlen hcell
    obtain ⟨n, rfl, _, hw⟩ := DataW.trod_int Tryd.underlying5 h
    have hb := bounds_u8 hw
    refine ⟨UInt8.ofNat n.toNat, ?_⟩
    have e : (((UInt8.ofNat n.toNat).toNat : Nat) : Int) = n := by
      rw [UInt8.toNat_ofNat_of_lt' (by show n.toNat < 256; omega)]; omega
    show _ = some (Value.int .u8 _)
    rw [e]
    exact hcell 0 _ rfl
  obtain ⟨A, c, l, rfl, hc, hr, hb⟩ := open_rows (P := Tryd.prog) (size := 1) (bytes := 1) Tryd.underlying30 (by kernel_rfl) (by omega) (by kernel_rfl) (by omega) (IsU8 w) elem h hs hk
  refine ⟨l, by omega, fun η X hX => ?_⟩
  simp only [Rep]
  refine ⟨A, c, by rw [List.length_map], by rw [List.length_map]; exact hc, by rw [List.length_map]; omega, trivial, fun h0 => ?_⟩
  rw [List.length_map] at h0
  obtain ⟨b, o, e, hbl, hf⟩ := hr h0
  refine ⟨b, o, 1, e, by omega, RepE.mk fun i d hd => ?_⟩
  rw [List.getElem?_map] at hd
  cases hi : l[i]? with
  | none => rw [hi] at hd; cases hd
  | some a =>
    rw [hi] at hd
    injection hd with hd
    subst hd
    exact ⟨by simp only [bD, RepA], fun _ => ⟨rfl, hX _ _, .int .u8 (a.toNat : Int), hf i a hi, rfl, by simp only [bD, Rep]⟩⟩
end
end Go.Proofs.YtbcabejdchkpmaaDoor

namespace Go.Proofs.YtbcabejdchkpmaaDoor
open Go.RowKit
theorem take_map_len {α β : Type} (f : α → β) (l : List α) : (l.map f).take l.length = l.map f := List.take_of_length_le (by simp)
attribute [go_sem] take_map_len
end Go.Proofs.YtbcabejdchkpmaaDoor

namespace Go.Proofs.YtbcabejdchkpmaaDoor
open Go.ChangeShapes Go.WideShapes Go.ChangeAt Go.RowKit Go.Deep Go.Joins
section
variable {H : Type} {enc : TypeId × Value → H} {w : World}
theorem open_structs {P : Program} {α : Type} (e : α → D) {t el : TypeId} {size bytes : Nat} (ht : P.underlying t = some (.slice el)) (hc : P.cellsOf el = size) (hs0 : 0 < size) (hby : P.bytesOf el = bytes) (hb0 : 0 < bytes) (Q : α → List Value → Prop)
    (elem : ∀ (fuel : Nat) (cs : List Value) (x : DataW H × List MemPlace), DataW.trod enc P w 0 (fun _ => true) true fuel el cs = some x → Sized P el x.1 → cs.length = size → ∃ d, Q d cs)
    (hw : ∀ a, (e a).width = size) (hag : ∀ a, (e a).isAgg = true) (hrep : ∀ d cs, Q d cs → ∀ (η : Names) (X : Nat → Nat → Prop), (∀ b i, X b i) → Rep P w η X (e d) (.agg cs.toArray))
    {v : Value} {d : DataW H} {p : List MemPlace} {W : World} {base : Nat} (h : DataW.Trod enc P w 0 (fun _ => true) true t v d p) (hs : Sized P t d) (hk : Value.okWide P W .any base t v) :
    ∃ l : List α, (∀ a ∈ l, ∃ cs, Q a cs) ∧ l.length ≤ 140737488351232 ∧ ∀ (η : Names) (X : Nat → Nat → Prop), (∀ b i, X b i) → Rep P w η X (.sl .no (l.map e)) v := by
  obtain ⟨A, c, l, rfl, hlc, hr, hb⟩ := open_rows (α := α × List Value) ht hc hs0 hby hb0 (fun b o d => d.2.length = size ∧ Q d.1 d.2 ∧ w.rangeAt b o d.2) (fun fuel cs x b o _ hx hsx hlen hcell => by
    obtain ⟨d, hd⟩ := elem fuel cs x hx hsx hlen
    exact ⟨(d, cs), hlen, hd, hcell⟩) h hs hk
  have hbb : l.length ≤ 140737488351232 := by
    have : c * 1 ≤ c * bytes := Nat.mul_le_mul_left _ hb0
    omega
  refine ⟨l.map (·.1), fun a ha => ?_, by rw [List.length_map]; exact hbb, fun η X hX => ?_⟩
  · obtain ⟨d, hd, rfl⟩ := List.mem_map.1 ha
    obtain ⟨i, hi, rfl⟩ := List.getElem_of_mem hd
    obtain ⟨b, o, _, _, hf⟩ := hr (by omega)
    exact ⟨_, (hf i _ (List.getElem?_eq_getElem hi)).2.1⟩
  · rcases Nat.eq_zero_or_pos l.length with h0 | h0
    · obtain rfl : l = [] := List.eq_nil_of_length_eq_zero h0
      simp only [Rep, List.map_nil, List.length_nil]
      exact ⟨A, c, rfl, Nat.zero_le _, by omega, trivial, fun h => absurd h (by omega)⟩
    · obtain ⟨b, o, rfl, hbl, hf⟩ := hr h0
      have hget : ∀ (i : Nat) (a : α), (l.map (·.1))[i]? = some a → ∃ C, l[i]? = some (a, C) ∧ ((l[i]?.map (·.2)).getD []) = C := by
        intro i a ha
        rw [List.getElem?_map] at ha
        cases hi : l[i]? with
        | none => rw [hi] at ha; cases ha
        | some d =>
          rw [hi] at ha
          obtain ⟨d1, d2⟩ := d
          simp at ha
          exact ⟨d2, by rw [ha], rfl⟩
      have hlen : l.length = (l.map (·.1)).length := by simp
      rw [hlen] at hlc hbb ⊢
      refine rep_structs (F := (· < w.heap.size)) e size hs0 (fun b i _ => hX b i) (b := b) (o := o) (C := fun i => (l[i]?.map (·.2)).getD []) (fun _ => ⟨rfl, hbl⟩) (fun i a ha => ?_) (fun i a ha => ?_) hag hlc hbb
      · obtain ⟨C, h1, h2⟩ := hget i a ha
        simp only [h2]
        have := hf i _ h1
        exact ⟨this.1, this.2.2⟩
      · obtain ⟨C, h1, h2⟩ := hget i a ha
        simp only [h2]
        exact hrep a C (hf i _ h1).2.1 η X hX
end
end Go.Proofs.YtbcabejdchkpmaaDoor

namespace Go.Proofs.YtbcabejdchkpmaaDoor
open Go.RowKit
theorem bin_rem {P : Program} {t : TypeId} {x y : Operand} (k : IntKind) (a b : Int) (hb : b ≠ 0) : dbin P .rem t x y (.v (.int k a)) (.v (.int k b)) = some (True, .v (.int k (a.tmod b))) := by
  simp [dbin, eqGuard, binOp, Op.intDiv, pureRun_bind, pureRun_pure, hb]
end Go.Proofs.YtbcabejdchkpmaaDoor

namespace Go.Proofs.YtbcabejdchkpmaaDoor
open Go.RowKit
def IsU64 (n : Nat) : Prop := n < 18446744073709551616
def IsI64 (n : Int) : Prop := -9223372036854775808 ≤ n ∧ n < 9223372036854775808
theorem wrap_u64 (n : Nat) (h : IsU64 n) : IntKind.u64.wrap (n : Int) = n := by
  unfold IsU64 at h
  simp only [IntKind.wrap_u64]
  omega
theorem or80' : ∀ x : Fin 256, bits BinOp.or IntKind.u8 (x.val : Int) 128 = ((x.val % 128 + 128 : Nat) : Int) := by decide +kernel
theorem or80 (k : Nat) : bits BinOp.or IntKind.u8 ((k : Int) % 256) 128 = ((k % 128 + 128 : Nat) : Int) := by
  have h := or80' ⟨k % 256, by omega⟩
  simp only at h
  rw [show ((k : Int) % 256) = ((k % 256 : Nat) : Int) from by omega, h]
  omega
theorem xor_zig (n : Int) (h : IsI64 n) : bits BinOp.xor IntKind.u64 (IntKind.u64.wrap (IntKind.u64.wrap n * 2)) (IntKind.u64.wrap (n / 9223372036854775808)) = (zig n : Int) := by
  unfold IsI64 at h
  show IntKind.u64.wrap ((BitVec.ofInt 64 _ ^^^ BitVec.ofInt 64 _).toNat : Int) = _
  simp only [IntKind.wrap_u64]
  unfold zig
  by_cases h0 : n < 0
  · rw [if_pos h0, show n / 9223372036854775808 % 18446744073709551616 = 18446744073709551615 from by omega]
    rw [show BitVec.ofInt 64 18446744073709551615 = BitVec.allOnes 64 from by decide, BitVec.xor_allOnes, BitVec.toNat_not, BitVec.toNat_ofInt]
    omega
  · rw [if_neg h0, show n / 9223372036854775808 % 18446744073709551616 = 0 from by omega]
    rw [show BitVec.ofInt 64 0 = 0#64 from by decide, BitVec.xor_zero, BitVec.toNat_ofInt]
    omega
theorem zig_u64 (n : Int) (h : IsI64 n) : IsU64 (zig n) := by unfold IsI64 at h; unfold IsU64 zig; split <;> omega
section
variable {P : Program} {t : TypeId} {x y : Operand}
theorem bin_or (k : IntKind) (a b : Int) : dbin P .or t x y (.v (.int k a)) (.v (.int k b)) = some (True, .v (.int k (bits .or k a b))) := by
  simp [dbin, eqGuard, binOp, intBits_or, pureRun_bind, pureRun_pure]
theorem bin_xor (k : IntKind) (a b : Int) : dbin P .xor t x y (.v (.int k a)) (.v (.int k b)) = some (True, .v (.int k (bits .xor k a b))) := by
  simp [dbin, eqGuard, binOp, intBits_xor, pureRun_bind, pureRun_pure]
theorem bin_andNot (k : IntKind) (a b : Int) : dbin P .andNot t x y (.v (.int k a)) (.v (.int k b)) = some (True, .v (.int k (bits .andNot k a b))) := by
  simp [dbin, eqGuard, binOp, intBits_andNot, pureRun_bind, pureRun_pure]
theorem bin_shr7 (a : Nat) : dbin P .shr t x y (.v (.int .u64 a)) (.v (.int .u64 7)) = some (True, .v (.int .u64 ((a / 128 : Nat) : Int))) := by
  simp [dbin, eqGuard, binOp, shift_shr .u64 .u64 (a : Int) 7 (by omega) (by decide), pureRun_bind, pureRun_pure]
theorem bin_shr63 (a : Int) : dbin P .shr t x y (.v (.int .i64 a)) (.v (.int .u64 63)) = some (True, .v (.int .i64 (a / 9223372036854775808))) := by
  simp [dbin, eqGuard, binOp, shift_shr .i64 .u64 a 63 (by omega) (by decide), pureRun_bind, pureRun_pure]
theorem bin_shl1 (a : Int) : dbin P .shl t x y (.v (.int .u64 a)) (.v (.int .u64 1)) = some (True, .v (.int .u64 (IntKind.u64.wrap (a * 2)))) := by
  simp [dbin, eqGuard, binOp, Op.shift, IntKind.bits, pureRun_bind, pureRun_pure]
end
theorem cv_u64u8 (n : Int) : pureRun Tryd.prog (convert 22 5 (.int .u64 n)) = some (.int .u8 (IntKind.u8.wrap n)) := by kernel_rfl
theorem cv_i64u64 (n : Int) : pureRun Tryd.prog (convert 3 22 (.int .i64 n)) = some (.int .u64 (IntKind.u64.wrap n)) := by kernel_rfl
theorem cv_u64i64 (n : Int) : pureRun Tryd.prog (convert 22 3 (.int .u64 n)) = some (.int .i64 (IntKind.i64.wrap n)) := by kernel_rfl
theorem cv_u8u64 (n : Int) : pureRun Tryd.prog (convert 5 22 (.int .u8 n)) = some (.int .u64 (IntKind.u64.wrap n)) := by kernel_rfl
theorem cv_i64u8 (n : Int) : pureRun Tryd.prog (convert 3 5 (.int .i64 n)) = some (.int .u8 (IntKind.u8.wrap n)) := by kernel_rfl
theorem u8T_u8 : u8T Tryd.prog 5 = true := by kernel_rfl
attribute [go_sem] u8T_u8
attribute [go_sem] bin_or bin_xor bin_andNot bin_shr7 bin_shr63 bin_shl1 cv_u64u8 cv_i64u64 cv_u64i64 cv_u8u64 cv_i64u8
def WAt (k : Nat) (bs : List UInt8) (T : St) : Prop := ∃ own, T.ob k = some (.box 73 [.sl own (bs.map bD)]) ∧ ((own = .full ∧ bs = []) ∨ ∃ g, own = .row g ∧ k < g ∧ T.ob g = some (.row 5 bs.length))
structure WFr (k : Nat) (S T : St) : Prop where
  next : S.next ≤ T.next
  ob : ∀ j o, (j < k ∨ (j ≠ k ∧ ∃ t cs, o = .box t cs)) → S.ob j = some o → T.ob j = some o
theorem WFr.of_keep {k : Nat} {S T : St} (hn : S.next ≤ T.next) (h : ∀ j o, S.ob j = some o → T.ob j = some o) : WFr k S T := ⟨hn, fun j o _ e => h j o e⟩
theorem WFr.refl (k : Nat) (S : St) : WFr k S S := ⟨Nat.le_refl _, fun _ _ _ h => h⟩
theorem WFr.trans {k : Nat} {A B C : St} (h : WFr k A B) (g : WFr k B C) : WFr k A C := ⟨Nat.le_trans h.next g.next, fun j o hj e => g.ob j o hj (h.ob j o hj e)⟩
theorem wd_bD (l : List UInt8) : ∀ d ∈ l.map bD, d.width = szOf Tryd.prog 5 := by
  intro d hd
  obtain ⟨b, _, rfl⟩ := List.mem_map.1 hd
  exact Eq.trans rfl (by kernel_rfl : 1 = szOf Tryd.prog 5)
theorem dapp_bytes {S : St} {ty : TypeId} {own own2 : Own} {bs xs : List UInt8} {K : D → St → Prop} (h : (own = .full ∧ bs = []) ∨ ∃ g, own = .row g ∧ S.ob g = some (.row 5 bs.length)) (hl : bs.length + xs.length ≤ 1099511627776)
    (k : K (.sl (.row S.next) ((bs ++ xs).map bD)) (S.grow own 5 (bs.length + xs.length))) : dapp Tryd.prog S 30 30 ty (.sl own (bs.map bD)) (.sl own2 (xs.map bD)) K := by
  refine dapp_row ?_
  have he : elT Tryd.prog 30 = some 5 := by kernel_rfl
  have hb : bytesOf Tryd.prog 5 = 1 := by kernel_rfl
  have hz : zeroT Tryd.prog 5 = true := by kernel_rfl
  simp only [dappend, he, hz, hb, List.length_map, ← List.map_append, true_and, Option.isSome_some]
  refine ⟨wd_bD bs, wd_bD xs, ?_, by omega, by omega, k⟩
  rcases h with ⟨rfl, rfl⟩ | ⟨g, rfl, h⟩
  · trivial
  · exact h
set_option maxRecDepth 200000 in
set_option maxHeartbeats 4000000 in
theorem raw_w {S : St} {k : Nat} {bs : List UInt8} (own2 : Own) (xs : List UInt8) (hk : k < S.next) (h : WAt k bs S) (hl : bs.length + xs.length ≤ 1099511627776) : DCalls Tryd.prog 65 [.loc k 0, .sl own2 (xs.map bD)] S fun d T => d = undefD ∧ WAt k (bs ++ xs) T ∧ WFr k S T := by
  obtain ⟨own, h1, h2⟩ := h
  refine dcalls_inline mixed Tryd.func65 rfl (fun _ _ => by kernel_rfl) (rs := []) rfl (by kernel_rfl) (fun hS => ?_)
  (simp (disch := first | decide | omega | (simp only [nx]; first | done | omega)) only [go_sem, h1]; (repeat with_reducible refine aI ?_))
  have hk2 : (k = S.next) = False := by simp; omega
  rcases h2 with ⟨rfl, rfl⟩ | ⟨g, rfl, hg, h2⟩
  · refine dapp_bytes (.inl ⟨rfl, rfl⟩) (by omega) ?_
    (simp (disch := first | decide | omega | (simp only [nx]; first | done | omega)) only [go_sem, hk2, h1]; (repeat with_reducible refine aI ?_))
    refine ⟨⟨.row S.next, by simp [St.set], .inr ⟨S.next, rfl, by omega, ?_⟩⟩, ⟨by simp [St.set, St.grow, St.leave, St.add], fun j o hj e => ?_⟩⟩
    · simp [St.grow, St.leave, St.add, St.set, Ne.symm (show k ≠ S.next by omega)]
    · have hlt := hS.lt e
      have hj : j ≠ k := by rcases hj with h | h; omega; exact h.1
      simp [St.grow, St.leave, St.add, St.set, hj, show j ≠ S.next by omega, e]
  · have hkg : (k = g) = False := by simp; omega
    refine dapp_bytes (.inr ⟨g, rfl, h2⟩) (by omega) ?_
    (simp (disch := first | decide | omega | (simp only [nx]; first | done | omega)) only [go_sem, hk2, hkg, h1]; (repeat with_reducible refine aI ?_))
    refine ⟨⟨.row S.next, by simp [St.set], .inr ⟨S.next, rfl, by omega, ?_⟩⟩, ⟨by simp [St.set, St.grow, St.leave, St.add, St.drop], fun j o hj e => ?_⟩⟩
    · simp [St.grow, St.leave, St.add, St.set, St.drop, Ne.symm (show k ≠ S.next by omega)]
    · have hlt := hS.lt e
      have hjg : j ≠ g := fun e2 => by
        rcases hj with h | ⟨_, t, cs, rfl⟩
        · omega
        · rw [e2, h2] at e; cases e
      have hj : j ≠ k := by rcases hj with h | h; omega; exact h.1
      simp [St.grow, St.leave, St.add, St.set, St.drop, hj, hjg, show j ≠ S.next by omega, e]
theorem add_keep {S : St} (hS : S.WF) (o : Ob) : ∀ j o', S.ob j = some o' → (S.add o).ob j = some o' := by
  intro j o' h
  have hlt := hS.lt h
  simp [St.add, show j ≠ S.next by omega, h]
theorem bD1 (n : Nat) (h : n < 256) : [D.v (.int .u8 (n : Int))] = [b8 n].map bD := by
  simp [bD, b8_toNat n h]
theorem wrap_u8 (n : Nat) : IntKind.u8.wrap (n : Int) = (n : Int) % 256 := IntKind.wrap_u8 _
set_option maxRecDepth 200000 in
set_option maxHeartbeats 4000000 in
theorem number_w {S : St} {k : Nat} {bs : List UInt8} (n : Nat) (hn : IsU64 n) (hk : k < S.next) (h : WAt k bs S) (hl : bs.length + 10 ≤ 1099511627776) : DCalls Tryd.prog 42 [.loc k 0, .v (.int .u64 (n : Int))] S fun d T => d = undefD ∧ WAt k (bs ++ numB n) T ∧ WFr k S T := by
  refine dcalls_inline mixed Tryd.func42 rfl (fun _ _ => by kernel_rfl) (rs := []) rfl (by kernel_rfl) (fun hS => ?_)
  (simp (disch := first | decide | omega | (simp only [nx]; first | done | omega)) only [go_sem]; (repeat with_reducible refine aI ?_))
  have hnl := numB_length_le n hn
  refine dloop_down (fun t => List.contains [1, 4, 5, 6, 7, 8, 9, 10, 11, 12, 13] t) (by kernel_rfl) hS (fun m g T => ∃ done, done ++ numB m = numB n ∧ IsU64 m ∧ g 1 = .v (.int .u64 (m : Int)) ∧ WAt k (bs ++ done) T ∧ WFr k S T) n ⟨[], rfl, hn, rfl, by rw [List.append_nil]; exact h, WFr.refl k S⟩ ?_
  rintro m g T hT hg ⟨done, hd, hm, q1, hW, hF⟩
  have q0 : g 0 = .loc k 0 := hg 0 rfl
  have hkT : k < T.next := Nat.lt_of_lt_of_le hk hF.next
  have hdl : (bs ++ done).length + 1 ≤ 1099511627776 := by
    have := congrArg List.length hd
    rw [List.length_append] at this
    have := numB_pos m
    rw [List.length_append]; omega
  by_cases hlt : m < 128
  · have b1 : decide ((128 : Int) ≤ (m : Int)) = false := by simp; omega
    have w8 : IntKind.u8.wrap (m : Int) = (m : Int) := by rw [wrap_u8]; omega
    (simp (disch := first | decide | omega | (simp only [nx]; first | done | omega)) only [go_sem, q0, q1, b1, w8]; (repeat with_reducible refine aI ?_))
    rw [bD1 m (by omega)]
    refine (raw_w .full [b8 m] hkT hW hdl).mono ?_
    rintro _ T1 ⟨rfl, h1, h2⟩
    (simp (disch := first | decide | omega | (simp only [nx]; first | done | omega)) only [go_sem]; (repeat with_reducible refine aI ?_))
    refine ⟨?_, hF.trans h2⟩
    rw [← hd, numB_lt m hlt, ← List.append_assoc]; exact h1
  · have b1 : decide ((128 : Int) ≤ (m : Int)) = true := by simp; omega
    (simp (disch := first | decide | omega | (simp only [nx]; first | done | omega)) only [go_sem, q0, q1, b1, wrap_u8, or80]; (repeat with_reducible refine aI ?_))
    rw [bD1 (m % 128 + 128) (by omega)]
    refine (raw_w .full [b8 (m % 128 + 128)] hkT hW hdl).mono ?_
    rintro _ T1 ⟨rfl, h1, h2⟩
    (simp (disch := first | decide | omega | (simp only [nx]; first | done | omega)) only [go_sem, q0, q1]; (repeat with_reducible refine aI ?_))
    refine ⟨m / 128, T1.ob, by omega, fun _ _ h => h, done ++ [b8 (m % 128 + 128)], ?_, by unfold IsU64 at *; omega, ?_, by rw [← List.append_assoc]; exact h1, hF.trans h2⟩
    · rw [List.append_assoc, ← hd, numB_ge m hlt]; rfl
    · (first | (simp (disch := first | decide | omega | (simp only [nx]; first | done | omega)) only [go_sem]; first | done | rfl) | rfl)
set_option maxRecDepth 200000 in
set_option maxHeartbeats 4000000 in
theorem int_w {S : St} {k : Nat} {bs : List UInt8} (n : Int) (hn : IsI64 n) (hk : k < S.next) (h : WAt k bs S) (hl : bs.length + 10 ≤ 1099511627776) : DCalls Tryd.prog 43 [.loc k 0, .v (.int .i64 n)] S fun d T => d = undefD ∧ WAt k (bs ++ numB (zig n)) T ∧ WFr k S T := by
  refine dcalls_inline mixed Tryd.func43 rfl (fun _ _ => by kernel_rfl) (rs := []) rfl (by kernel_rfl) (fun hS => ?_)
  (simp (disch := first | decide | omega | (simp only [nx]; first | done | omega)) only [go_sem, xor_zig n hn]; (repeat with_reducible refine aI ?_))
  refine (number_w (zig n) (zig_u64 n hn) hk h hl).mono ?_
  rintro _ T ⟨rfl, h1, h2⟩
  (simp (disch := first | decide | omega | (simp only [nx]; first | done | omega)) only [go_sem]; (repeat with_reducible refine aI ?_))
  exact h2
set_option maxRecDepth 200000 in
set_option maxHeartbeats 4000000 in
theorem out_w {S : St} {k : Nat} {bs : List UInt8} (h : WAt k bs S) (hl : bs.length ≤ 1099511627776) : DCalls Tryd.prog 44 [.loc k 0] S fun d T => ∃ o, d = .sl o (bs.map bD) ∧ WAt k bs T ∧ WFr k S T := by
  obtain ⟨own, h1, h2⟩ := h
  refine dcalls_inline mixed Tryd.func44 rfl (fun _ _ => by kernel_rfl) (rs := [.tmp 2]) rfl (by kernel_rfl) (fun hS => ?_)
  (simp (disch := first | decide | omega | (simp only [nx]; first | done | omega)) only [go_sem, h1]; (repeat with_reducible refine aI ?_))
  refine dapp_bytes (bs := []) (.inl ⟨rfl, rfl⟩) (by simpa using hl) ?_
  (simp (disch := first | decide | omega | (simp only [nx]; first | done | omega)) only [go_sem]; (repeat with_reducible refine aI ?_))
  have hob : ∀ j o, S.ob j = some o → (S.grow .full 5 bs.length).ob j = some o := fun j o e => by
    have hlt := hS.lt e
    simp [St.grow, St.leave, St.add, show j ≠ S.next by omega, e]
  exact ⟨_, rfl, ⟨own, hob _ _ h1, h2.imp id fun ⟨g, h3, h4, h5⟩ => ⟨g, h3, h4, hob _ _ h5⟩⟩, WFr.of_keep (by simp [St.grow, St.leave, St.add]) hob⟩
end Go.Proofs.YtbcabejdchkpmaaDoor

namespace Go.Proofs.YtbcabejdchkpmaaDoor
open Go.RowKit
theorem bD_eq (b : UInt8) : bD b = .v (.int .u8 (b.toNat : Int)) := rfl
theorem andNot80' : ∀ x : Fin 256, bits BinOp.andNot IntKind.u8 (x.val : Int) 128 = ((x.val % 128 : Nat) : Int) := by decide +kernel
theorem digit_put (m c k : Nat) (hm : m < 128 ^ k) (hk : k ≤ 9) (hk9 : k = 9 → c ≤ 1) (hc : c < 256) :
    bits BinOp.or IntKind.u64 (m : Int) (IntKind.u64.wrap (IntKind.u64.wrap (bits BinOp.andNot IntKind.u8 (c : Int) 128) * 2 ^ (7 * k))) = ((m + c % 128 * 128 ^ k : Nat) : Int) := by
  have h1 := andNot80' ⟨c, hc⟩
  simp only at h1
  have e2 : (2 : Nat) ^ (7 * k) = 128 ^ k := by rw [Nat.pow_mul]
  have hu : c % 128 * 128 ^ k < 18446744073709551616 ∧ 128 ^ k ≤ 9223372036854775808 := by
    have h3 : (128 : Nat) ^ k ≤ 128 ^ 9 := Nat.pow_le_pow_right (by omega) hk
    simp at h3
    refine ⟨?_, h3⟩
    by_cases h9 : k = 9
    · subst h9
      have := hk9 rfl
      have h4 : c % 128 * 128 ^ 9 ≤ 1 * 128 ^ 9 := Nat.mul_le_mul_right _ (by omega)
      simp at h4 ⊢
      omega
    · have h5 : (128 : Nat) ^ k ≤ 128 ^ 8 := Nat.pow_le_pow_right (by omega) (by omega)
      have h4 : c % 128 * 128 ^ k ≤ 127 * 128 ^ 8 := Nat.mul_le_mul (by omega) h5
      simp at h4
      omega
  rw [h1, wrap_u64 (c % 128) (by unfold IsU64; omega)]
  have e3 : ((c % 128 : Nat) : Int) * 2 ^ (7 * k) = ((c % 128 * 128 ^ k : Nat) : Int) := by rw [← e2]; push_cast; rfl
  rw [e3, wrap_u64 _ hu.1, bits_or_u64_nat _ _ (by omega) hu.1]
  congr 1
  rw [Nat.or_comm, ← e2, Nat.mul_comm, ← Nat.two_pow_add_eq_or_of_lt (by rw [e2]; exact hm)]
  omega
theorem bin_shl7 {P : Program} {t : TypeId} {x y : Operand} (a : Int) (k : Nat) (hk : k ≤ 9) : dbin P .shl t x y (.v (.int .u64 a)) (.v (.int .i64 ((7 * k : Nat) : Int))) = some (True, .v (.int .u64 (IntKind.u64.wrap (a * 2 ^ (7 * k))))) := by
  have h1 : ¬ ((7 * k : Nat) : Int) < 0 := by omega
  have h2 : min (7 * k) (IntKind.bits .u64) = 7 * k := by simp only [IntKind.bits]; omega
  have h3 : (((7 * k : Nat) : Int)).toNat = 7 * k := by omega
  simp only [dbin, eqGuard, binOp, Op.shift, h1, h3, h2, pureRun_bind, pureRun_pure, if_false]
  rfl
section
variable {P : Program} {f : Fm} {S : St}
theorem pfin_ret3 (t u v : Tmp) (S' : St) (d : D) : DQ.pfin P [.tmp t, .tmp u, .tmp v] S d .ret f S' = PFin S S' (.tup [f t, f u, f v]) d := by
  simp [DQ.pfin, dresL, dres, onVal, one]
theorem pfin_normal3 (t u v : Tmp) (S' : St) (d : D) : DQ.pfin P [.tmp t, .tmp u, .tmp v] S d .normal f S' = PFin S S' (.tup [f t, f u, f v]) d := by
  simp [DQ.pfin, dresL, dres, onVal, one]
end
attribute [go_sem] pfin_ret3 pfin_normal3
def accN (l : List UInt8) : Nat → Nat
  | 0 => 0
  | i + 1 => accN l i + (l.getD i 0).toNat % 128 * 128 ^ i
def numD : Option (Nat × Nat) → D
  | some (n, s) => .tup [.v (.int .u64 (n : Int)), .v (.int .i64 (s : Int)), .v (.int .i64 0)]
  | none => .tup [.v (.int .u64 0), .v (.int .i64 0), .v (.int .i64 2)]
theorem numD_closed (o : Option (Nat × Nat)) : (numD o).closed := by
  cases o <;> simp [numD, D.closed, D.all, allL]
theorem drop_cons' {α : Type} (l : List α) (k : Nat) (h : k < l.length) : l.drop k = l[k] :: l.drop (k + 1) := by rw [List.drop_eq_getElem_cons h]
set_option maxRecDepth 200000 in
set_option maxHeartbeats 8000000 in
theorem number_d (own : Own) (l : List UInt8) (hl : l.length ≤ 1099511627776) : DPure Tryd.prog 36 [.sl own (l.map bD)] (numD (numP l)) := by
  refine dpure_of_dwp mixed Tryd.func36 rfl (fun _ _ => by kernel_rfl) (rs := [.tmp 2, .tmp 3, .tmp 4]) rfl (by kernel_rfl) (numD_closed _) (fun S hS => ?_)
  (simp (disch := first | decide | omega | (simp only [nx]; first | done | omega)) only [go_sem]; (repeat with_reducible refine aI ?_))
  (refine dloop_st (fun t => List.contains [2, 3, 4, 5, 6, 7, 10, 11, 12, 13, 14, 15, 16, 17, 18, 19, 20, 21, 22, 23, 24, 25, 26, 27, 28, 29, 30, 31, 32, 33, 34, 35, 36, 37, 38, 39, 40, 41, 42, 43, 44] t) (by kernel_rfl) ?_ (l.length) (fun i f => i ≤ l.length ∧ f 5 = .v (.int .u64 (accN l i : Nat)) ∧ f 10 = .v (.int .i64 (i : Nat)) ∧ (numP l = numGo i (accN l i) (l.drop i)) ∧ (accN l i < 128 ^ i) ∧ (i ≤ 10) ∧ (i = 10 → IsU64 (accN l i))) ?_ ?_; (exact (by (repeat' first | assumption | refine St.WF.leave ?_ _ | refine St.WF.add ?_ _ | refine St.WF.set ?_ ?_ _ | refine St.WF.grow ?_ _ _ _ | refine St.WF.keep ?_ ?_ | (first | omega | (simp only [RowOk.lo, nx]; first | done | omega))))); (exact ⟨(by omega), (by (first | (simp (disch := first | decide | omega | (simp only [nx]; first | done | omega)) only [go_sem]; first | done | rfl) | rfl)), (by (first | (simp (disch := first | decide | omega | (simp only [nx]; first | done | omega)) only [go_sem]; first | done | rfl) | rfl)), (by simp [numP, accN]), (by simp [accN]), (by omega), (fun h => by omega)⟩); intro i g tn hn hT hg hI; obtain ⟨le, q5, q10, hp, hm, hk, hu⟩ := hI; have q8 := hg 8 rfl; have q9 := hg 9 rfl; simp (disch := first | decide | omega | (simp only [nx]; first | done | omega)) only [go_sem] at q8 q9; clear hg; have hn' := hn; try simp only [add_next, set_next, grow_next, leave_next, drop_next] at hn')
  by_cases hlt : i < l.length
  · have b1 : decide ((i : Int) < (l.length : Int)) = true := by simp; omega
    have hd := drop_cons' l i hlt
    have hbyte : l[i].toNat < 256 := UInt8.toNat_lt _
    have hacc : accN l (i + 1) = accN l i + l[i].toNat % 128 * 128 ^ i := by rw [accN, List.getD_eq_getElem?_getD, List.getElem?_eq_getElem hlt]; rfl
    by_cases h10 : i = 10
    · have e1 : ((i : Int) == 10) = true := by simp; omega
      (simp (disch := first | decide | omega | (simp only [nx]; first | done | omega)) only [go_sem, q5, q8, q9, q10, b1, e1, bD_eq]; (repeat with_reducible refine aI ?_))
      refine ⟨?_, (by (repeat' first | assumption | exact St.Sub.refl _ | exact RowOk.sub (by assumption) (by assumption) | refine St.Sub.trans ?_ (RowOk.sub (by assumption) (by assumption)) | refine St.Sub.add ?_ ?_ _ | refine St.Sub.set ?_ ?_ ?_ _ | refine St.Sub.keep ?_ ?_ | refine St.WF.leave ?_ _ | refine St.WF.add ?_ _ | refine St.WF.set ?_ ?_ _ | refine St.WF.grow ?_ _ _ _ | refine St.WF.keep ?_ ?_ | (first | omega | (simp only [RowOk.lo, nx]; first | done | omega))))⟩
      rw [hp, hd, numGo, if_pos (.inl h10)]; rfl
    · have e1 : ((i : Int) == 10) = false := by simp; omega
      by_cases h9 : i = 9 ∧ 1 < l[i].toNat
      · have e2 : ((i : Int) == 9) = true := by simp; omega
        have e3 : decide (1 < (l[i].toNat : Int)) = true := by simp; omega
        (simp (disch := first | decide | omega | (simp only [nx]; first | done | omega)) only [go_sem, q5, q8, q9, q10, b1, e1, e2, e3, bD_eq]; (repeat with_reducible refine aI ?_))
        refine ⟨?_, (by (repeat' first | assumption | exact St.Sub.refl _ | exact RowOk.sub (by assumption) (by assumption) | refine St.Sub.trans ?_ (RowOk.sub (by assumption) (by assumption)) | refine St.Sub.add ?_ ?_ _ | refine St.Sub.set ?_ ?_ ?_ _ | refine St.Sub.keep ?_ ?_ | refine St.WF.leave ?_ _ | refine St.WF.add ?_ _ | refine St.WF.set ?_ ?_ _ | refine St.WF.grow ?_ _ _ _ | refine St.WF.keep ?_ ?_ | (first | omega | (simp only [RowOk.lo, nx]; first | done | omega))))⟩
        rw [hp, hd, numGo, if_pos (.inr h9)]; rfl
      · have hg : ¬ (i = 10 ∨ i = 9 ∧ 1 < l[i].toNat) := by omega
        have hdig := digit_put (accN l i) l[i].toNat i hm (by omega) (fun h => by omega) hbyte
        have w7 : IntKind.i64.wrap (7 * (i : Int)) = ((7 * i : Nat) : Int) := by rw [IntWalk.i64_in _ ⟨by omega, by omega⟩]; push_cast; rfl
        have w1 : IntKind.i64.wrap ((i : Int) + 1) = ((i + 1 : Nat) : Int) := IntWalk.i64_in _ ⟨by omega, by omega⟩
        have hs7 : ∀ {t : TypeId} {x y : Operand} (a : Int), dbin Tryd.prog .shl t x y (.v (.int .u64 a)) (.v (.int .i64 ((7 * i : Nat) : Int))) = some (True, .v (.int .u64 (IntKind.u64.wrap (a * 2 ^ (7 * i))))) := fun a => bin_shl7 a i (by omega)
        have hU : accN l (i + 1) < 128 ^ (i + 1) ∧ (i + 1 = 10 → IsU64 (accN l (i + 1))) := by
          rw [hacc]
          refine ⟨?_, fun h => ?_⟩
          · have h2 : l[i].toNat % 128 * 128 ^ i ≤ 127 * 128 ^ i := Nat.mul_le_mul_right _ (by omega)
            rw [Nat.pow_succ]; omega
          · have h5 : i = 9 := by omega
            subst h5
            have h4 : l[9].toNat % 128 * 128 ^ 9 ≤ 1 * 128 ^ 9 := Nat.mul_le_mul_right _ (by omega)
            simp at h4 hm
            unfold IsU64
            omega
        have hcase : ∃ b9 b8 : Bool, ((i : Int) == 9) = b9 ∧ decide (1 < (l[i].toNat : Int)) = b8 ∧ (b9 && b8) = false := ⟨_, _, rfl, rfl, by
          cases h : ((i : Int) == 9)
          · rfl
          · have : ¬ (1 < l[i].toNat) := fun h' => h9 ⟨by have := eq_of_beq h; omega, h'⟩
            simp; omega⟩
        obtain ⟨b9, b8, e2, e3, e4⟩ := hcase
        by_cases hge : 128 ≤ l[i].toNat
        · have g1 : decide ((128 : Int) ≤ (l[i].toNat : Int)) = true := by simp; omega
          have hS : numP l = numGo (i + 1) (accN l (i + 1)) (l.drop (i + 1)) := by rw [hp, hd, numGo, if_neg hg, if_pos hge, hacc]
          cases b9
          · (simp (disch := first | decide | omega | (simp only [nx]; first | done | omega)) only [go_sem, q5, q8, q9, q10, b1, e1, e2, e3, bD_eq, w7, hs7, hdig, g1]; (repeat with_reducible refine aI ?_))
            (refine ⟨by omega, (by (repeat' first | assumption | exact St.Sub.refl _ | exact RowOk.sub (by assumption) (by assumption) | refine St.Sub.trans ?_ (RowOk.sub (by assumption) (by assumption)) | refine St.Sub.add ?_ ?_ _ | refine St.Sub.set ?_ ?_ ?_ _ | refine St.Sub.keep ?_ ?_ | refine St.WF.leave ?_ _ | refine St.WF.add ?_ _ | refine St.WF.set ?_ ?_ _ | refine St.WF.grow ?_ _ _ _ | refine St.WF.keep ?_ ?_ | (first | omega | (simp only [RowOk.lo, nx]; first | done | omega)))), ?_⟩; refine ⟨by omega, ?_, ?_, ?_, ?_, ?_, ?_⟩; all_goals (try (first | (simp (disch := first | decide | omega | (simp only [nx]; first | done | omega)) only [go_sem, w1, hacc]; first | done | rfl) | rfl)))
            · exact hS
            · exact hU.1
            · omega
            · exact hU.2
          · obtain rfl : b8 = false := by simpa using e4
            (simp (disch := first | decide | omega | (simp only [nx]; first | done | omega)) only [go_sem, q5, q8, q9, q10, b1, e1, e2, e3, bD_eq, w7, hs7, hdig, g1]; (repeat with_reducible refine aI ?_))
            (refine ⟨by omega, (by (repeat' first | assumption | exact St.Sub.refl _ | exact RowOk.sub (by assumption) (by assumption) | refine St.Sub.trans ?_ (RowOk.sub (by assumption) (by assumption)) | refine St.Sub.add ?_ ?_ _ | refine St.Sub.set ?_ ?_ ?_ _ | refine St.Sub.keep ?_ ?_ | refine St.WF.leave ?_ _ | refine St.WF.add ?_ _ | refine St.WF.set ?_ ?_ _ | refine St.WF.grow ?_ _ _ _ | refine St.WF.keep ?_ ?_ | (first | omega | (simp only [RowOk.lo, nx]; first | done | omega)))), ?_⟩; refine ⟨by omega, ?_, ?_, ?_, ?_, ?_, ?_⟩; all_goals (try (first | (simp (disch := first | decide | omega | (simp only [nx]; first | done | omega)) only [go_sem, w1, hacc]; first | done | rfl) | rfl)))
            · exact hS
            · exact hU.1
            · omega
            · exact hU.2
        · have g1 : decide ((128 : Int) ≤ (l[i].toNat : Int)) = false := by simp; omega
          by_cases hz : l[i].toNat = 0 ∧ 0 < i
          · have z1 : ((l[i].toNat : Int) == 0) = true := by simp; omega
            have z2 : decide ((0 : Int) < (i : Int)) = true := by simp; omega
            have hR : numP l = none := by rw [hp, hd, numGo, if_neg hg, if_neg hge, if_pos hz]
            rw [hR]
            cases b9
            · (simp (disch := first | decide | omega | (simp only [nx]; first | done | omega)) only [go_sem, q5, q8, q9, q10, b1, e1, e2, e3, bD_eq, w7, hs7, hdig, g1, z1, z2]; (repeat with_reducible refine aI ?_))
              refine ⟨?_, (by (repeat' first | assumption | exact St.Sub.refl _ | exact RowOk.sub (by assumption) (by assumption) | refine St.Sub.trans ?_ (RowOk.sub (by assumption) (by assumption)) | refine St.Sub.add ?_ ?_ _ | refine St.Sub.set ?_ ?_ ?_ _ | refine St.Sub.keep ?_ ?_ | refine St.WF.leave ?_ _ | refine St.WF.add ?_ _ | refine St.WF.set ?_ ?_ _ | refine St.WF.grow ?_ _ _ _ | refine St.WF.keep ?_ ?_ | (first | omega | (simp only [RowOk.lo, nx]; first | done | omega))))⟩
              rfl
            · obtain rfl : b8 = false := by simpa using e4
              (simp (disch := first | decide | omega | (simp only [nx]; first | done | omega)) only [go_sem, q5, q8, q9, q10, b1, e1, e2, e3, bD_eq, w7, hs7, hdig, g1, z1, z2]; (repeat with_reducible refine aI ?_))
              refine ⟨?_, (by (repeat' first | assumption | exact St.Sub.refl _ | exact RowOk.sub (by assumption) (by assumption) | refine St.Sub.trans ?_ (RowOk.sub (by assumption) (by assumption)) | refine St.Sub.add ?_ ?_ _ | refine St.Sub.set ?_ ?_ ?_ _ | refine St.Sub.keep ?_ ?_ | refine St.WF.leave ?_ _ | refine St.WF.add ?_ _ | refine St.WF.set ?_ ?_ _ | refine St.WF.grow ?_ _ _ _ | refine St.WF.keep ?_ ?_ | (first | omega | (simp only [RowOk.lo, nx]; first | done | omega))))⟩
              rfl
          · have hR : numP l = some (accN l (i + 1), i + 1) := by rw [hp, hd, numGo, if_neg hg, if_neg hge, if_neg hz, hacc]
            rw [hR, hacc]
            by_cases hz0 : l[i].toNat = 0
            · have z1 : ((l[i].toNat : Int) == 0) = true := by simp; omega
              have z2 : decide ((0 : Int) < (i : Int)) = false := by simp; omega
              cases b9
              · (simp (disch := first | decide | omega | (simp only [nx]; first | done | omega)) only [go_sem, q5, q8, q9, q10, b1, e1, e2, e3, bD_eq, w7, hs7, hdig, g1, z1, z2, w1]; (repeat with_reducible refine aI ?_))
                refine ⟨?_, (by (repeat' first | assumption | exact St.Sub.refl _ | exact RowOk.sub (by assumption) (by assumption) | refine St.Sub.trans ?_ (RowOk.sub (by assumption) (by assumption)) | refine St.Sub.add ?_ ?_ _ | refine St.Sub.set ?_ ?_ ?_ _ | refine St.Sub.keep ?_ ?_ | refine St.WF.leave ?_ _ | refine St.WF.add ?_ _ | refine St.WF.set ?_ ?_ _ | refine St.WF.grow ?_ _ _ _ | refine St.WF.keep ?_ ?_ | (first | omega | (simp only [RowOk.lo, nx]; first | done | omega))))⟩
                rfl
              · obtain rfl : b8 = false := by simpa using e4
                (simp (disch := first | decide | omega | (simp only [nx]; first | done | omega)) only [go_sem, q5, q8, q9, q10, b1, e1, e2, e3, bD_eq, w7, hs7, hdig, g1, z1, z2, w1]; (repeat with_reducible refine aI ?_))
                refine ⟨?_, (by (repeat' first | assumption | exact St.Sub.refl _ | exact RowOk.sub (by assumption) (by assumption) | refine St.Sub.trans ?_ (RowOk.sub (by assumption) (by assumption)) | refine St.Sub.add ?_ ?_ _ | refine St.Sub.set ?_ ?_ ?_ _ | refine St.Sub.keep ?_ ?_ | refine St.WF.leave ?_ _ | refine St.WF.add ?_ _ | refine St.WF.set ?_ ?_ _ | refine St.WF.grow ?_ _ _ _ | refine St.WF.keep ?_ ?_ | (first | omega | (simp only [RowOk.lo, nx]; first | done | omega))))⟩
                rfl
            · have z1 : ((l[i].toNat : Int) == 0) = false := by simp; omega
              cases b9
              · (simp (disch := first | decide | omega | (simp only [nx]; first | done | omega)) only [go_sem, q5, q8, q9, q10, b1, e1, e2, e3, bD_eq, w7, hs7, hdig, g1, z1, w1]; (repeat with_reducible refine aI ?_))
                refine ⟨?_, (by (repeat' first | assumption | exact St.Sub.refl _ | exact RowOk.sub (by assumption) (by assumption) | refine St.Sub.trans ?_ (RowOk.sub (by assumption) (by assumption)) | refine St.Sub.add ?_ ?_ _ | refine St.Sub.set ?_ ?_ ?_ _ | refine St.Sub.keep ?_ ?_ | refine St.WF.leave ?_ _ | refine St.WF.add ?_ _ | refine St.WF.set ?_ ?_ _ | refine St.WF.grow ?_ _ _ _ | refine St.WF.keep ?_ ?_ | (first | omega | (simp only [RowOk.lo, nx]; first | done | omega))))⟩
                rfl
              · obtain rfl : b8 = false := by simpa using e4
                (simp (disch := first | decide | omega | (simp only [nx]; first | done | omega)) only [go_sem, q5, q8, q9, q10, b1, e1, e2, e3, bD_eq, w7, hs7, hdig, g1, z1, w1]; (repeat with_reducible refine aI ?_))
                refine ⟨?_, (by (repeat' first | assumption | exact St.Sub.refl _ | exact RowOk.sub (by assumption) (by assumption) | refine St.Sub.trans ?_ (RowOk.sub (by assumption) (by assumption)) | refine St.Sub.add ?_ ?_ _ | refine St.Sub.set ?_ ?_ ?_ _ | refine St.Sub.keep ?_ ?_ | refine St.WF.leave ?_ _ | refine St.WF.add ?_ _ | refine St.WF.set ?_ ?_ _ | refine St.WF.grow ?_ _ _ _ | refine St.WF.keep ?_ ?_ | (first | omega | (simp only [RowOk.lo, nx]; first | done | omega))))⟩
                rfl
  · have b1 : decide ((i : Int) < (l.length : Int)) = false := by simp; omega
    have hR : numP l = none := by rw [hp, List.drop_eq_nil_of_le (by omega)]; rfl
    rw [hR]
    (simp (disch := first | decide | omega | (simp only [nx]; first | done | omega)) only [go_sem, q5, q8, q9, q10, b1]; (repeat with_reducible refine aI ?_))
    refine ⟨?_, (by (repeat' first | assumption | exact St.Sub.refl _ | exact RowOk.sub (by assumption) (by assumption) | refine St.Sub.trans ?_ (RowOk.sub (by assumption) (by assumption)) | refine St.Sub.add ?_ ?_ _ | refine St.Sub.set ?_ ?_ ?_ _ | refine St.Sub.keep ?_ ?_ | refine St.WF.leave ?_ _ | refine St.WF.add ?_ _ | refine St.WF.set ?_ ?_ _ | refine St.WF.grow ?_ _ _ _ | refine St.WF.keep ?_ ?_ | (first | omega | (simp only [RowOk.lo, nx]; first | done | omega))))⟩
    rfl
end Go.Proofs.YtbcabejdchkpmaaDoor

namespace Go.Proofs.YtbcabejdchkpmaaDoor
open Go.RowKit
section
variable {P : Program} {t : TypeId} {x : Operand}
theorem bin_nil_eql (c : Value) : dbin Tryd.prog .eql 35 x (.const c) (.v .nilIface) (.v .nilIface) = some (True, .v (.bool true)) := by cases x <;> kernel_rfl
theorem bin_nil_neq (c : Value) : dbin Tryd.prog .neq 35 x (.const c) (.v .nilIface) (.v .nilIface) = some (True, .v (.bool false)) := by cases x <;> kernel_rfl
end
attribute [go_sem] bin_nil_eql bin_nil_neq
def RAt (k : Nat) (l : List UInt8) (i : Nat) (T : St) : Prop := ∃ own, T.ob k = some (.box 64 [.sl own (l.map bD), .v (.int .i64 (i : Int)), .v .nilIface])
structure RFr (k : Nat) (S T : St) : Prop where
  next : S.next ≤ T.next
  ob : ∀ j o, j ≠ k → S.ob j = some o → T.ob j = some o
theorem RFr.refl (k : Nat) (S : St) : RFr k S S := ⟨Nat.le_refl _, fun _ _ _ h => h⟩
theorem RFr.trans {k : Nat} {A B C : St} (h : RFr k A B) (g : RFr k B C) : RFr k A C := ⟨Nat.le_trans h.next g.next, fun j o hj e => g.ob j o hj (h.ob j o hj e)⟩
theorem RFr.box {k : Nat} {S T : St} (h : RFr k S T) (j : Nat) (t : TypeId) (cs : List D) (hj : j ≠ k) (e : S.ob j = some (.box t cs)) : T.ob j = some (.box t cs) := h.ob j _ hj e
theorem RFr.add {k : Nat} {S T : St} (h : RFr k S T) (hT : T.WF) (o : Ob) : RFr k S (T.add o) := h.trans ⟨Nat.le_succ _, fun j o' _ e => add_keep hT o j o' e⟩
theorem wd_c (l : List UInt8) : ∀ d ∈ l.map bD, d.cells.length = 1 := by
  intro d hd
  obtain ⟨b, _, rfl⟩ := List.mem_map.1 hd
  rfl
theorem take_bD (l : List UInt8) : List.take l.length (l.map bD) = l.map bD := List.take_of_length_le (by simp)
theorem set_ne {S : St} {a b : Nat} {o : Ob} (h : a ≠ b) : (S.set b o).ob a = S.ob a := by simp [St.set, h]
theorem set_eq {S : St} {b : Nat} {o : Ob} : (S.set b o).ob b = some o := by simp [St.set]
theorem add_ne {S : St} {a : Nat} {o : Ob} (h : a < S.next) : (S.add o).ob a = S.ob a := by simp [St.add, show a ≠ S.next by omega]
theorem add_eq {S : St} {o : Ob} : (S.add o).ob S.next = some o := by simp [St.add]
theorem numP_le {l : List UInt8} {n s : Nat} (h : numP l = some (n, s)) : s ≤ l.length ∧ IsU64 n := by
  have := numGo_bounds l 0 0 (by omega) (by simp) (by omega) n s h
  exact ⟨by omega, this.1⟩
set_option maxRecDepth 200000 in
set_option maxHeartbeats 8000000 in
theorem new_r {S : St} {l : List UInt8} {o : Own} (hl : l.length ≤ 1099511627776) : DCalls Tryd.prog 20 [.sl o (l.map bD)] S fun d T => ∃ k, d = .loc k 0 ∧ S.next ≤ k ∧ k < T.next ∧ RAt k l 0 T ∧ ∀ j o, S.ob j = some o → T.ob j = some o := by
  refine dcalls_inline mixed Tryd.func20 rfl (fun _ _ => by kernel_rfl) (rs := [.tmp 2]) rfl (by kernel_rfl) (fun hS => ?_)
  (simp (disch := first | decide | omega | (simp only [nx]; first | done | omega)) only [go_sem]; (repeat with_reducible refine aI ?_))
  refine dapp_bytes (bs := []) (.inl ⟨rfl, rfl⟩) (by simpa using hl) ?_
  (simp (disch := first | decide | omega | (simp only [nx]; first | done | omega)) only [go_sem]; (repeat with_reducible refine aI ?_))
  refine ⟨S.next + 1, rfl, by omega, by omega, ⟨.row S.next, add_eq (S := S.grow .full 5 l.length)⟩, fun j o e => ?_⟩
  have := hS.lt e
  rw [add_ne (by show j < S.next + 1; omega)]
  simp only [St.grow, St.leave]
  rw [add_ne this, e]
end Go.Proofs.YtbcabejdchkpmaaDoor

namespace Go.Proofs.YtbcabejdchkpmaaDoor
open Go.RowKit
theorem bin_quo {P : Program} {t : TypeId} {x y : Operand} (k : IntKind) (a b : Int) (hb : b ≠ 0) : dbin P .quo t x y (.v (.int k a)) (.v (.int k b)) = some (True, .v (.int k (k.wrap (a.tdiv b)))) := by
  simp [dbin, eqGuard, binOp, Op.intDiv, pureRun_bind, pureRun_pure, hb]
end Go.Proofs.YtbcabejdchkpmaaDoor

namespace Go.Proofs.YtbcabejdchkpmaaDoor
open Go.RowKit
theorem cv_u8u64' (n : Int) : pureRun Tryd.prog (convert 5 22 (.int .u8 n)) = some (.int .u64 (IntKind.u64.wrap n)) := by kernel_rfl
def parD : Option (Nat × Nat) → D
  | some (n, s) => .tup [.v (.int .u64 (n : Int)), .v (.int .i64 (s : Int))]
  | none => .tup [.v (.int .u64 0), .v (.int .i64 0)]
theorem parD_closed (o : Option (Nat × Nat)) : (parD o).closed := by
  cases o <;> simp [parD, D.closed, D.all, allL]
def HiB (l : List UInt8) (i : Nat) : Prop := ∀ j, j < i → 128 ≤ (l.getD j 0).toNat
theorem HiB.lt {l : List UInt8} {i j : Nat} (h : HiB l i) (hj : j < i) : j < l.length := by
  have := h j hj
  by_cases hl : j < l.length
  · exact hl
  · rw [List.getD_eq_getElem?_getD, List.getElem?_eq_none (by omega)] at this
    simp at this
theorem getD_c {l : List UInt8} {i : Nat} (h : i < l.length) : l.getD i 0 = l[i] := by
  rw [List.getD_eq_getElem?_getD, List.getElem?_eq_getElem h]; rfl
theorem numP_hi {l : List UInt8} : ∀ i, i ≤ 9 → HiB l i → numP l = numGo i (accN l i) (l.drop i)
  | 0, _, _ => by simp [numP, accN]
  | i + 1, hi, h => by
    have hl := h.lt (Nat.lt_succ_self i)
    have hc := h i (Nat.lt_succ_self i)
    rw [getD_c hl] at hc
    rw [numP_hi i (by omega) fun j hj => h j (by omega), drop_cons' l i hl, numGo, if_neg (by omega), if_pos hc, accN, getD_c hl]
theorem numP_ten {l : List UInt8} {i : Nat} (hi : 10 ≤ i) (h : HiB l i) : numP l = none := by
  have hl := h.lt (show 9 < i by omega)
  have hc := h 9 (by omega)
  rw [getD_c hl] at hc
  rw [numP_hi 9 (by omega) fun j hj => h j (by omega), drop_cons' l 9 hl, numGo, if_pos (.inr ⟨rfl, by omega⟩)]
theorem numP_out {l : List UInt8} {i : Nat} (hi : i = l.length) (h : HiB l i) : numP l = none := by
  by_cases h9 : i ≤ 9
  · rw [numP_hi i h9 h, List.drop_eq_nil_of_le (by omega)]; rfl
  · exact numP_ten (by omega) h
theorem numP_big {l : List UInt8} (hl : 9 < l.length) (h : HiB l 9) (hc : 1 < l[9].toNat) : numP l = none := by
  rw [numP_hi 9 (by omega) h, drop_cons' l 9 hl, numGo, if_pos (.inr ⟨rfl, hc⟩)]
theorem numP_zero {l : List UInt8} {i : Nat} (h9 : i ≤ 9) (hl : i < l.length) (h : HiB l i) (h0 : 0 < i) (hc : l[i].toNat = 0) : numP l = none := by
  rw [numP_hi i h9 h, drop_cons' l i hl, numGo, if_neg (by omega), if_neg (by omega), if_pos ⟨hc, h0⟩]
theorem numP_ok {l : List UInt8} {i : Nat} (h9 : i ≤ 9) (hl : i < l.length) (h : HiB l i) (hb : ¬ (i = 9 ∧ 1 < l[i].toNat)) (hh : l[i].toNat < 128) (hz : ¬ (l[i].toNat = 0 ∧ 0 < i)) : numP l = some (accN l (i + 1), i + 1) := by
  rw [numP_hi i h9 h, drop_cons' l i hl, numGo, if_neg (by omega), if_neg (by omega), if_neg hz, accN, getD_c hl]
theorem tmod128 (c : Nat) : (c : Int).tmod 128 = ((c % 128 : Nat) : Int) := by
  rw [Int.tmod_eq_emod_of_nonneg (by omega)]; omega
def hor (l : List UInt8) (I : Nat) : Nat → Nat
  | 0 => 0
  | r + 1 => hor l I r * 128 + (l.getD (I - r) 0).toNat % 128
theorem hor_acc (l : List UInt8) (I : Nat) : ∀ r, r ≤ I + 1 → accN l (I + 1) = accN l (I + 1 - r) + hor l I r * 128 ^ (I + 1 - r)
  | 0, _ => by simp [hor]
  | r + 1, h => by
    rw [hor_acc l I r (by omega), show I + 1 - r = (I - r) + 1 by omega, show I + 1 - (r + 1) = I - r by omega, accN, hor, Nat.pow_succ]
    rw [Nat.add_mul, Nat.mul_assoc (hor l I r) 128, Nat.mul_comm 128 (128 ^ (I - r))]
    omega
theorem hor_all (l : List UInt8) (I : Nat) : accN l (I + 1) = hor l I (I + 1) := by
  have := hor_acc l I (I + 1) (Nat.le_refl _)
  rw [this, Nat.sub_self, Nat.pow_zero, Nat.mul_one]
  exact Nat.zero_add _
theorem hor_le (l : List UInt8) (I r : Nat) (h : r ≤ I + 1) : hor l I r ≤ accN l (I + 1) := by
  rw [hor_acc l I r h]
  have : hor l I r * 1 ≤ hor l I r * 128 ^ (I + 1 - r) := Nat.mul_le_mul_left _ (Nat.pow_pos (by omega))
  omega
theorem hor_step {l : List UInt8} {I r : Nat} (h9 : I ≤ 9) (hr : r < I + 1) (hu : IsU64 (accN l (I + 1))) : IsU64 (hor l I r * 128) ∧ IsU64 (hor l I (r + 1)) := by
  have := hor_le l I (r + 1) (by omega)
  unfold IsU64 at *
  rw [hor] at this ⊢
  omega
theorem hor_0 (l : List UInt8) (I : Nat) : hor l I 0 = 0 := rfl
attribute [irreducible] hor
set_option maxRecDepth 200000 in
set_option maxHeartbeats 16000000 in
theorem parse_d (own : Own) (l : List UInt8) (hl : l.length ≤ 1099511627776) : DPure Tryd.prog 67 [.sl own (l.map bD)] (parD (numP l)) := by
  refine dpure_of_dwp mixed Tryd.func67 rfl (fun _ _ => by kernel_rfl) (rs := [.tmp 2, .tmp 3]) rfl (by kernel_rfl) (parD_closed _) (fun S hS => ?_)
  (simp (disch := first | decide | omega | (simp only [nx]; first | done | omega)) only [go_sem]; (repeat with_reducible refine aI ?_))
  (refine dloop_st (fun t => List.contains [4, 7, 8, 9, 10, 11, 12, 13, 14, 15, 16, 17, 18, 19, 20, 21, 22, 23] t) (by kernel_rfl) ?_ (11) (fun i f => i ≤ 11 ∧ f 4 = .v (.int .i64 (i : Nat)) ∧ (HiB l i) ∧ (i ≤ l.length)) ?_ ?_; (exact (by (repeat' first | assumption | refine St.WF.leave ?_ _ | refine St.WF.add ?_ _ | refine St.WF.set ?_ ?_ _ | refine St.WF.grow ?_ _ _ _ | refine St.WF.keep ?_ ?_ | (first | omega | (simp only [RowOk.lo, nx]; first | done | omega))))); (exact ⟨(by omega), (by (first | (simp (disch := first | decide | omega | (simp only [nx]; first | done | omega)) only [go_sem]; first | done | rfl) | rfl)), (fun j hj => absurd hj (Nat.not_lt_zero _)), (by omega)⟩); intro i g tn hn hT hg hI; obtain ⟨le, q4, hh, hle⟩ := hI; have q0 := hg 0 rfl; have q2 := hg 2 rfl; have q3 := hg 3 rfl; simp (disch := first | decide | omega | (simp only [nx]; first | done | omega)) only [go_sem] at q0 q2 q3; clear hg; have hn' := hn; try simp only [add_next, set_next, grow_next, leave_next, drop_next] at hn')
  by_cases hlen : i < l.length
  · have c1 : decide ((i : Int) < (l.length : Int)) = true := decide_eq_true (by omega)
    have e1 : decide ((l.length : Int) ≤ (i : Int)) = false := decide_eq_false (by omega)
    have hgi := getD_map bD l i hlen
    by_cases h11 : i < 11
    · have c2 : decide ((i : Int) < 11) = true := decide_eq_true (by omega)
      by_cases hhi : 128 ≤ l[i].toNat
      · have c3 : decide ((128 : Int) ≤ (l[i].toNat : Int)) = true := decide_eq_true (by omega)
        have w1 : IntKind.i64.wrap ((i : Int) + 1) = ((i + 1 : Nat) : Int) := IntWalk.i64_in _ ⟨by omega, by omega⟩
        (simp (disch := first | decide | omega | (simp only [nx]; first | done | omega)) only [go_sem, q0, q4, c1, c2, c3, hgi, bD_eq]; (repeat with_reducible refine aI ?_))
        (refine ⟨by omega, (by (repeat' first | assumption | exact St.Sub.refl _ | exact RowOk.sub (by assumption) (by assumption) | refine St.Sub.trans ?_ (RowOk.sub (by assumption) (by assumption)) | refine St.Sub.add ?_ ?_ _ | refine St.Sub.set ?_ ?_ ?_ _ | refine St.Sub.keep ?_ ?_ | refine St.WF.leave ?_ _ | refine St.WF.add ?_ _ | refine St.WF.set ?_ ?_ _ | refine St.WF.grow ?_ _ _ _ | refine St.WF.keep ?_ ?_ | (first | omega | (simp only [RowOk.lo, nx]; first | done | omega)))), ?_⟩; refine ⟨by omega, ?_, ?_, ?_⟩; all_goals (try (first | (simp (disch := first | decide | omega | (simp only [nx]; first | done | omega)) only [go_sem, w1]; first | done | rfl) | rfl)))
        · intro j hj
          by_cases hji : j = i
          · subst hji; rw [getD_c hlen]; exact hhi
          · exact hh j (by omega)
        · omega
      · have c3 : decide ((128 : Int) ≤ (l[i].toNat : Int)) = false := decide_eq_false (by omega)
        by_cases h10 : 10 ≤ i
        · have e2 : decide ((10 : Int) ≤ (i : Int)) = true := decide_eq_true (by omega)
          (simp (disch := first | decide | omega | (simp only [nx]; first | done | omega)) only [go_sem, q0, q4, c1, c2, c3, e1, e2, hgi, bD_eq]; (repeat with_reducible refine aI ?_))
          refine ⟨?_, (by (repeat' first | assumption | exact St.Sub.refl _ | exact RowOk.sub (by assumption) (by assumption) | refine St.Sub.trans ?_ (RowOk.sub (by assumption) (by assumption)) | refine St.Sub.add ?_ ?_ _ | refine St.Sub.set ?_ ?_ ?_ _ | refine St.Sub.keep ?_ ?_ | refine St.WF.leave ?_ _ | refine St.WF.add ?_ _ | refine St.WF.set ?_ ?_ _ | refine St.WF.grow ?_ _ _ _ | refine St.WF.keep ?_ ?_ | (first | omega | (simp only [RowOk.lo, nx]; first | done | omega))))⟩
          rw [numP_ten h10 hh]; rfl
        have e2 : decide ((10 : Int) ≤ (i : Int)) = false := decide_eq_false (by omega)
        obtain ⟨I, hI⟩ : ∃ I, I = i := ⟨_, rfl⟩
        have hI9 : I ≤ 9 := by omega
        by_cases h9 : i = 9
        · have h9l : 9 < l.length := by omega
          have hl9 : l[i] = l[9]'h9l := by simp only [h9]
          have e3 : ((i : Int) == 9) = true := by rw [h9]; decide
          have hg9 := getD_map bD l 9 h9l
          have hh9 : HiB l 9 := by rw [← h9]; exact hh
          by_cases hb : 1 < (l[9]'h9l).toNat
          · have e4 : decide ((1 : Int) < ((l[Int.toNat 9]'h9l).toNat : Int)) = true := decide_eq_true (by have : 1 < (l[Int.toNat 9]'h9l).toNat := hb; omega)
            (simp (disch := first | decide | omega | (simp only [nx]; first | done | omega)) only [go_sem, q0, q4, c1, c2, c3, e1, e2, e3, e4, hgi, hg9, bD_eq]; (repeat with_reducible refine aI ?_))
            refine ⟨?_, (by (repeat' first | assumption | exact St.Sub.refl _ | exact RowOk.sub (by assumption) (by assumption) | refine St.Sub.trans ?_ (RowOk.sub (by assumption) (by assumption)) | refine St.Sub.add ?_ ?_ _ | refine St.Sub.set ?_ ?_ ?_ _ | refine St.Sub.keep ?_ ?_ | refine St.WF.leave ?_ _ | refine St.WF.add ?_ _ | refine St.WF.set ?_ ?_ _ | refine St.WF.grow ?_ _ _ _ | refine St.WF.keep ?_ ?_ | (first | omega | (simp only [RowOk.lo, nx]; first | done | omega))))⟩
            rw [numP_big h9l hh9 hb]; rfl
          have e4 : decide ((1 : Int) < ((l[Int.toNat 9]'h9l).toNat : Int)) = false := decide_eq_false (by have : ¬ 1 < (l[Int.toNat 9]'h9l).toNat := hb; omega)
          have e5 : decide ((0 : Int) < (i : Int)) = true := decide_eq_true (by omega)
          by_cases hz : l[i].toNat = 0
          · have e6 : ((l[i].toNat : Int) == 0) = true := by rw [hz]; rfl
            (simp (disch := first | decide | omega | (simp only [nx]; first | done | omega)) only [go_sem, q0, q4, c1, c2, c3, e1, e2, e3, e4, e5, e6, hgi, hg9, bD_eq]; (repeat with_reducible refine aI ?_))
            refine ⟨?_, (by (repeat' first | assumption | exact St.Sub.refl _ | exact RowOk.sub (by assumption) (by assumption) | refine St.Sub.trans ?_ (RowOk.sub (by assumption) (by assumption)) | refine St.Sub.add ?_ ?_ _ | refine St.Sub.set ?_ ?_ ?_ _ | refine St.Sub.keep ?_ ?_ | refine St.WF.leave ?_ _ | refine St.WF.add ?_ _ | refine St.WF.set ?_ ?_ _ | refine St.WF.grow ?_ _ _ _ | refine St.WF.keep ?_ ?_ | (first | omega | (simp only [RowOk.lo, nx]; first | done | omega))))⟩
            rw [numP_zero (by omega) hlen hh (by omega) hz]; rfl
          have e6 : ((l[i].toNat : Int) == 0) = false := by simp; omega
          have hok := numP_ok (by omega) hlen hh (by rw [hl9]; omega) (by omega) (by omega)
          have hNs := (numP_le hok).2
          (simp (disch := first | decide | omega | (simp only [nx]; first | done | omega)) only [go_sem, q0, q4, c1, c2, c3, e1, e2, e3, e4, e5, e6, hgi, hg9, bD_eq]; (repeat with_reducible refine aI ?_))
          subst hI
          (refine dloop_st (fun t => List.contains [5, 6, 54, 55, 56, 57, 58, 59, 60, 61, 62, 63, 64, 65, 66] t) (by kernel_rfl) ?_ (I + 1) (fun iY f => iY ≤ I + 1 ∧ f 5 = .v (.int .u64 ((hor l I iY : Nat) : Int)) ∧ f 6 = .v (.int .i64 ((I : Int) - (iY : Nat))) ∧ (True)) ?_ ?_; (exact (by (repeat' first | assumption | refine St.WF.leave ?_ _ | refine St.WF.add ?_ _ | refine St.WF.set ?_ ?_ _ | refine St.WF.grow ?_ _ _ _ | refine St.WF.keep ?_ ?_ | (first | omega | (simp only [RowOk.lo, nx]; first | done | omega))))); (exact ⟨(by omega), (by (first | (simp (disch := first | decide | omega | (simp only [nx]; first | done | omega)) only [go_sem, q0, q4, hor_0, Int.natCast_zero, Int.sub_zero]; first | done | rfl) | rfl)), (by (first | (simp (disch := first | decide | omega | (simp only [nx]; first | done | omega)) only [go_sem, q0, q4, hor_0, Int.natCast_zero, Int.sub_zero]; first | done | rfl) | rfl)), (trivial)⟩); intro iY gY tnY hnY hTY hgY hIY; obtain ⟨leY, q5Y, q6Y, hx⟩ := hIY; have q0Y := hgY 0 rfl; have q2Y := hgY 2 rfl; have q3Y := hgY 3 rfl; have q4Y := hgY 4 rfl; simp (disch := first | decide | omega | (simp only [nx]; first | done | omega)) only [go_sem, q0, q4, hor_0, Int.natCast_zero, Int.sub_zero] at q0Y q2Y q3Y q4Y; clear hgY; have hnY' := hnY; try simp only [add_next, set_next, grow_next, leave_next, drop_next] at hnY')
          by_cases hlt : iY < I + 1
          · have d1 : decide ((0 : Int) ≤ (I : Int) - (iY : Int)) = true := decide_eq_true (by omega)
            have d2 : ((I : Int) - (iY : Int)).toNat = I - iY := by omega
            have d3 : (0 : Int) ≤ (I : Int) - (iY : Int) := by omega
            have d4 : (I : Int) - (iY : Int) < (l.length : Int) := by omega
            have hIl : I - iY < l.length := by omega
            have hstep := hor_step hI9 hlt hNs
            have hgd := getD_map bD l (I - iY) hIl
            obtain ⟨H0, hH0⟩ : ∃ H0, H0 = hor l I iY := ⟨_, rfl⟩
            obtain ⟨H1, hH1⟩ : ∃ H1, H1 = hor l I (iY + 1) := ⟨_, rfl⟩
            have hHs : H1 = H0 * 128 + l[I - iY].toNat % 128 := by rw [hH1, hor, hH0, getD_c hIl]
            rw [← hH0, ← hH1] at hstep
            rw [← hH0] at q5Y
            have wm : IntKind.u64.wrap ((H0 : Int) * 128) = ((H0 * 128 : Nat) : Int) := by
              rw [show (H0 : Int) * 128 = ((H0 * 128 : Nat) : Int) by push_cast; rfl]
              exact wrap_u64 _ hstep.1
            have wa : IntKind.u64.wrap (((H0 * 128 : Nat) : Int) + ((l[I - iY].toNat % 128 : Nat) : Int)) = (H1 : Int) := by
              rw [show ((H0 * 128 : Nat) : Int) + ((l[I - iY].toNat % 128 : Nat) : Int) = (H1 : Int) by rw [hHs]; push_cast; rfl]
              exact wrap_u64 _ hstep.2
            have wb : IntKind.u64.wrap ((l[I - iY].toNat % 128 : Nat) : Int) = ((l[I - iY].toNat % 128 : Nat) : Int) := wrap_u64 _ (by unfold IsU64; omega)
            have ws : IntKind.i64.wrap ((I : Int) - (iY : Int) - 1) = (I : Int) - ((iY + 1 : Nat) : Int) := by rw [IntWalk.i64_in _ ⟨by omega, by omega⟩]; omega
            have rm : ∀ {x y : Operand}, dbin Tryd.prog .rem 5 x y (.v (.int .u8 (l[I - iY].toNat : Int))) (.v (.int .u8 128)) = some (True, .v (.int .u8 ((l[I - iY].toNat % 128 : Nat) : Int))) := by
              intro x y
              rw [bin_rem _ _ _ (by omega), tmod128]
            (simp (disch := first | decide | omega | (simp only [nx]; first | done | omega)) only [go_sem, q0, q2, q3, q4, q0Y, q4Y, q5Y, q6Y, d1, d2, d3, d4, hgd, bD_eq, rm, cv_u8u64', wb, wm, wa]; (repeat with_reducible refine aI ?_))
            refine ⟨by omega, ⟨by omega, fun _ _ h => h⟩, ?_⟩
            refine ⟨by omega, ?_, ?_⟩
            · simp (disch := first | decide | omega | (simp only [nx]; first | done | omega)) only [go_sem, hH1]
            · simp (disch := first | decide | omega | (simp only [nx]; first | done | omega)) only [go_sem, ws]
          · have hie : iY = I + 1 := by omega
            subst hie
            have d1 : decide ((0 : Int) ≤ (I : Int) - ((I + 1 : Nat) : Int)) = false := decide_eq_false (by omega)
            have wp : IntKind.i64.wrap ((I : Int) + 1) = ((I + 1 : Nat) : Int) := IntWalk.i64_in _ ⟨by omega, by omega⟩
            (simp (disch := first | decide | omega | (simp only [nx]; first | done | omega)) only [go_sem, q0, q2, q3, q4, q0Y, q4Y, q5Y, q6Y, d1, wp]; (repeat with_reducible refine aI ?_))
            refine ⟨?_, ⟨by show S.next ≤ tnY; omega, fun _ _ h => h⟩⟩
            rw [hok, hor_all]
            rfl
        have e3 : ((i : Int) == 9) = false := by simp; omega
        by_cases h0 : i = 0
        · have e5 : decide ((0 : Int) < (i : Int)) = false := decide_eq_false (by omega)
          have hok := numP_ok (by omega) hlen hh (by omega) (by omega) (by omega)
          have hNs := (numP_le hok).2
          (simp (disch := first | decide | omega | (simp only [nx]; first | done | omega)) only [go_sem, q0, q4, c1, c2, c3, e1, e2, e3, e5, hgi, bD_eq]; (repeat with_reducible refine aI ?_))
          subst hI
          (refine dloop_st (fun t => List.contains [5, 6, 54, 55, 56, 57, 58, 59, 60, 61, 62, 63, 64, 65, 66] t) (by kernel_rfl) ?_ (I + 1) (fun iY f => iY ≤ I + 1 ∧ f 5 = .v (.int .u64 ((hor l I iY : Nat) : Int)) ∧ f 6 = .v (.int .i64 ((I : Int) - (iY : Nat))) ∧ (True)) ?_ ?_; (exact (by (repeat' first | assumption | refine St.WF.leave ?_ _ | refine St.WF.add ?_ _ | refine St.WF.set ?_ ?_ _ | refine St.WF.grow ?_ _ _ _ | refine St.WF.keep ?_ ?_ | (first | omega | (simp only [RowOk.lo, nx]; first | done | omega))))); (exact ⟨(by omega), (by (first | (simp (disch := first | decide | omega | (simp only [nx]; first | done | omega)) only [go_sem, q0, q4, hor_0, Int.natCast_zero, Int.sub_zero]; first | done | rfl) | rfl)), (by (first | (simp (disch := first | decide | omega | (simp only [nx]; first | done | omega)) only [go_sem, q0, q4, hor_0, Int.natCast_zero, Int.sub_zero]; first | done | rfl) | rfl)), (trivial)⟩); intro iY gY tnY hnY hTY hgY hIY; obtain ⟨leY, q5Y, q6Y, hx⟩ := hIY; have q0Y := hgY 0 rfl; have q2Y := hgY 2 rfl; have q3Y := hgY 3 rfl; have q4Y := hgY 4 rfl; simp (disch := first | decide | omega | (simp only [nx]; first | done | omega)) only [go_sem, q0, q4, hor_0, Int.natCast_zero, Int.sub_zero] at q0Y q2Y q3Y q4Y; clear hgY; have hnY' := hnY; try simp only [add_next, set_next, grow_next, leave_next, drop_next] at hnY')
          by_cases hlt : iY < I + 1
          · have d1 : decide ((0 : Int) ≤ (I : Int) - (iY : Int)) = true := decide_eq_true (by omega)
            have d2 : ((I : Int) - (iY : Int)).toNat = I - iY := by omega
            have d3 : (0 : Int) ≤ (I : Int) - (iY : Int) := by omega
            have d4 : (I : Int) - (iY : Int) < (l.length : Int) := by omega
            have hIl : I - iY < l.length := by omega
            have hstep := hor_step hI9 hlt hNs
            have hgd := getD_map bD l (I - iY) hIl
            obtain ⟨H0, hH0⟩ : ∃ H0, H0 = hor l I iY := ⟨_, rfl⟩
            obtain ⟨H1, hH1⟩ : ∃ H1, H1 = hor l I (iY + 1) := ⟨_, rfl⟩
            have hHs : H1 = H0 * 128 + l[I - iY].toNat % 128 := by rw [hH1, hor, hH0, getD_c hIl]
            rw [← hH0, ← hH1] at hstep
            rw [← hH0] at q5Y
            have wm : IntKind.u64.wrap ((H0 : Int) * 128) = ((H0 * 128 : Nat) : Int) := by
              rw [show (H0 : Int) * 128 = ((H0 * 128 : Nat) : Int) by push_cast; rfl]
              exact wrap_u64 _ hstep.1
            have wa : IntKind.u64.wrap (((H0 * 128 : Nat) : Int) + ((l[I - iY].toNat % 128 : Nat) : Int)) = (H1 : Int) := by
              rw [show ((H0 * 128 : Nat) : Int) + ((l[I - iY].toNat % 128 : Nat) : Int) = (H1 : Int) by rw [hHs]; push_cast; rfl]
              exact wrap_u64 _ hstep.2
            have wb : IntKind.u64.wrap ((l[I - iY].toNat % 128 : Nat) : Int) = ((l[I - iY].toNat % 128 : Nat) : Int) := wrap_u64 _ (by unfold IsU64; omega)
            have ws : IntKind.i64.wrap ((I : Int) - (iY : Int) - 1) = (I : Int) - ((iY + 1 : Nat) : Int) := by rw [IntWalk.i64_in _ ⟨by omega, by omega⟩]; omega
            have rm : ∀ {x y : Operand}, dbin Tryd.prog .rem 5 x y (.v (.int .u8 (l[I - iY].toNat : Int))) (.v (.int .u8 128)) = some (True, .v (.int .u8 ((l[I - iY].toNat % 128 : Nat) : Int))) := by
              intro x y
              rw [bin_rem _ _ _ (by omega), tmod128]
            (simp (disch := first | decide | omega | (simp only [nx]; first | done | omega)) only [go_sem, q0, q2, q3, q4, q0Y, q4Y, q5Y, q6Y, d1, d2, d3, d4, hgd, bD_eq, rm, cv_u8u64', wb, wm, wa]; (repeat with_reducible refine aI ?_))
            refine ⟨by omega, ⟨by omega, fun _ _ h => h⟩, ?_⟩
            refine ⟨by omega, ?_, ?_⟩
            · simp (disch := first | decide | omega | (simp only [nx]; first | done | omega)) only [go_sem, hH1]
            · simp (disch := first | decide | omega | (simp only [nx]; first | done | omega)) only [go_sem, ws]
          · have hie : iY = I + 1 := by omega
            subst hie
            have d1 : decide ((0 : Int) ≤ (I : Int) - ((I + 1 : Nat) : Int)) = false := decide_eq_false (by omega)
            have wp : IntKind.i64.wrap ((I : Int) + 1) = ((I + 1 : Nat) : Int) := IntWalk.i64_in _ ⟨by omega, by omega⟩
            (simp (disch := first | decide | omega | (simp only [nx]; first | done | omega)) only [go_sem, q0, q2, q3, q4, q0Y, q4Y, q5Y, q6Y, d1, wp]; (repeat with_reducible refine aI ?_))
            refine ⟨?_, ⟨by show S.next ≤ tnY; omega, fun _ _ h => h⟩⟩
            rw [hok, hor_all]
            rfl
        have e5 : decide ((0 : Int) < (i : Int)) = true := decide_eq_true (by omega)
        by_cases hz : l[i].toNat = 0
        · have e6 : ((l[i].toNat : Int) == 0) = true := by rw [hz]; rfl
          (simp (disch := first | decide | omega | (simp only [nx]; first | done | omega)) only [go_sem, q0, q4, c1, c2, c3, e1, e2, e3, e5, e6, hgi, bD_eq]; (repeat with_reducible refine aI ?_))
          refine ⟨?_, (by (repeat' first | assumption | exact St.Sub.refl _ | exact RowOk.sub (by assumption) (by assumption) | refine St.Sub.trans ?_ (RowOk.sub (by assumption) (by assumption)) | refine St.Sub.add ?_ ?_ _ | refine St.Sub.set ?_ ?_ ?_ _ | refine St.Sub.keep ?_ ?_ | refine St.WF.leave ?_ _ | refine St.WF.add ?_ _ | refine St.WF.set ?_ ?_ _ | refine St.WF.grow ?_ _ _ _ | refine St.WF.keep ?_ ?_ | (first | omega | (simp only [RowOk.lo, nx]; first | done | omega))))⟩
          rw [numP_zero (by omega) hlen hh (by omega) hz]; rfl
        have e6 : ((l[i].toNat : Int) == 0) = false := by simp; omega
        have hok := numP_ok (by omega) hlen hh (by omega) (by omega) (by omega)
        have hNs := (numP_le hok).2
        (simp (disch := first | decide | omega | (simp only [nx]; first | done | omega)) only [go_sem, q0, q4, c1, c2, c3, e1, e2, e3, e5, e6, hgi, bD_eq]; (repeat with_reducible refine aI ?_))
        subst hI
        (refine dloop_st (fun t => List.contains [5, 6, 54, 55, 56, 57, 58, 59, 60, 61, 62, 63, 64, 65, 66] t) (by kernel_rfl) ?_ (I + 1) (fun iY f => iY ≤ I + 1 ∧ f 5 = .v (.int .u64 ((hor l I iY : Nat) : Int)) ∧ f 6 = .v (.int .i64 ((I : Int) - (iY : Nat))) ∧ (True)) ?_ ?_; (exact (by (repeat' first | assumption | refine St.WF.leave ?_ _ | refine St.WF.add ?_ _ | refine St.WF.set ?_ ?_ _ | refine St.WF.grow ?_ _ _ _ | refine St.WF.keep ?_ ?_ | (first | omega | (simp only [RowOk.lo, nx]; first | done | omega))))); (exact ⟨(by omega), (by (first | (simp (disch := first | decide | omega | (simp only [nx]; first | done | omega)) only [go_sem, q0, q4, hor_0, Int.natCast_zero, Int.sub_zero]; first | done | rfl) | rfl)), (by (first | (simp (disch := first | decide | omega | (simp only [nx]; first | done | omega)) only [go_sem, q0, q4, hor_0, Int.natCast_zero, Int.sub_zero]; first | done | rfl) | rfl)), (trivial)⟩); intro iY gY tnY hnY hTY hgY hIY; obtain ⟨leY, q5Y, q6Y, hx⟩ := hIY; have q0Y := hgY 0 rfl; have q2Y := hgY 2 rfl; have q3Y := hgY 3 rfl; have q4Y := hgY 4 rfl; simp (disch := first | decide | omega | (simp only [nx]; first | done | omega)) only [go_sem, q0, q4, hor_0, Int.natCast_zero, Int.sub_zero] at q0Y q2Y q3Y q4Y; clear hgY; have hnY' := hnY; try simp only [add_next, set_next, grow_next, leave_next, drop_next] at hnY')
        by_cases hlt : iY < I + 1
        · have d1 : decide ((0 : Int) ≤ (I : Int) - (iY : Int)) = true := decide_eq_true (by omega)
          have d2 : ((I : Int) - (iY : Int)).toNat = I - iY := by omega
          have d3 : (0 : Int) ≤ (I : Int) - (iY : Int) := by omega
          have d4 : (I : Int) - (iY : Int) < (l.length : Int) := by omega
          have hIl : I - iY < l.length := by omega
          have hstep := hor_step hI9 hlt hNs
          have hgd := getD_map bD l (I - iY) hIl
          obtain ⟨H0, hH0⟩ : ∃ H0, H0 = hor l I iY := ⟨_, rfl⟩
          obtain ⟨H1, hH1⟩ : ∃ H1, H1 = hor l I (iY + 1) := ⟨_, rfl⟩
          have hHs : H1 = H0 * 128 + l[I - iY].toNat % 128 := by rw [hH1, hor, hH0, getD_c hIl]
          rw [← hH0, ← hH1] at hstep
          rw [← hH0] at q5Y
          have wm : IntKind.u64.wrap ((H0 : Int) * 128) = ((H0 * 128 : Nat) : Int) := by
            rw [show (H0 : Int) * 128 = ((H0 * 128 : Nat) : Int) by push_cast; rfl]
            exact wrap_u64 _ hstep.1
          have wa : IntKind.u64.wrap (((H0 * 128 : Nat) : Int) + ((l[I - iY].toNat % 128 : Nat) : Int)) = (H1 : Int) := by
            rw [show ((H0 * 128 : Nat) : Int) + ((l[I - iY].toNat % 128 : Nat) : Int) = (H1 : Int) by rw [hHs]; push_cast; rfl]
            exact wrap_u64 _ hstep.2
          have wb : IntKind.u64.wrap ((l[I - iY].toNat % 128 : Nat) : Int) = ((l[I - iY].toNat % 128 : Nat) : Int) := wrap_u64 _ (by unfold IsU64; omega)
          have ws : IntKind.i64.wrap ((I : Int) - (iY : Int) - 1) = (I : Int) - ((iY + 1 : Nat) : Int) := by rw [IntWalk.i64_in _ ⟨by omega, by omega⟩]; omega
          have rm : ∀ {x y : Operand}, dbin Tryd.prog .rem 5 x y (.v (.int .u8 (l[I - iY].toNat : Int))) (.v (.int .u8 128)) = some (True, .v (.int .u8 ((l[I - iY].toNat % 128 : Nat) : Int))) := by
            intro x y
            rw [bin_rem _ _ _ (by omega), tmod128]
          (simp (disch := first | decide | omega | (simp only [nx]; first | done | omega)) only [go_sem, q0, q2, q3, q4, q0Y, q4Y, q5Y, q6Y, d1, d2, d3, d4, hgd, bD_eq, rm, cv_u8u64', wb, wm, wa]; (repeat with_reducible refine aI ?_))
          refine ⟨by omega, ⟨by omega, fun _ _ h => h⟩, ?_⟩
          refine ⟨by omega, ?_, ?_⟩
          · simp (disch := first | decide | omega | (simp only [nx]; first | done | omega)) only [go_sem, hH1]
          · simp (disch := first | decide | omega | (simp only [nx]; first | done | omega)) only [go_sem, ws]
        · have hie : iY = I + 1 := by omega
          subst hie
          have d1 : decide ((0 : Int) ≤ (I : Int) - ((I + 1 : Nat) : Int)) = false := decide_eq_false (by omega)
          have wp : IntKind.i64.wrap ((I : Int) + 1) = ((I + 1 : Nat) : Int) := IntWalk.i64_in _ ⟨by omega, by omega⟩
          (simp (disch := first | decide | omega | (simp only [nx]; first | done | omega)) only [go_sem, q0, q2, q3, q4, q0Y, q4Y, q5Y, q6Y, d1, wp]; (repeat with_reducible refine aI ?_))
          refine ⟨?_, ⟨by show S.next ≤ tnY; omega, fun _ _ h => h⟩⟩
          rw [hok, hor_all]
          rfl
    · have c2 : decide ((i : Int) < 11) = false := decide_eq_false (by omega)
      have e2 : decide ((10 : Int) ≤ (i : Int)) = true := decide_eq_true (by omega)
      (simp (disch := first | decide | omega | (simp only [nx]; first | done | omega)) only [go_sem, q0, q4, c1, c2, e1, e2, hgi, bD_eq]; (repeat with_reducible refine aI ?_))
      refine ⟨?_, (by (repeat' first | assumption | exact St.Sub.refl _ | exact RowOk.sub (by assumption) (by assumption) | refine St.Sub.trans ?_ (RowOk.sub (by assumption) (by assumption)) | refine St.Sub.add ?_ ?_ _ | refine St.Sub.set ?_ ?_ ?_ _ | refine St.Sub.keep ?_ ?_ | refine St.WF.leave ?_ _ | refine St.WF.add ?_ _ | refine St.WF.set ?_ ?_ _ | refine St.WF.grow ?_ _ _ _ | refine St.WF.keep ?_ ?_ | (first | omega | (simp only [RowOk.lo, nx]; first | done | omega))))⟩
      rw [numP_ten (by omega) hh]; rfl
  · have c1 : decide ((i : Int) < (l.length : Int)) = false := decide_eq_false (by omega)
    have e1 : decide ((l.length : Int) ≤ (i : Int)) = true := decide_eq_true (by omega)
    (simp (disch := first | decide | omega | (simp only [nx]; first | done | omega)) only [go_sem, q0, q4, c1, e1]; (repeat with_reducible refine aI ?_))
    refine ⟨?_, (by (repeat' first | assumption | exact St.Sub.refl _ | exact RowOk.sub (by assumption) (by assumption) | refine St.Sub.trans ?_ (RowOk.sub (by assumption) (by assumption)) | refine St.Sub.add ?_ ?_ _ | refine St.Sub.set ?_ ?_ ?_ _ | refine St.Sub.keep ?_ ?_ | refine St.WF.leave ?_ _ | refine St.WF.add ?_ _ | refine St.WF.set ?_ ?_ _ | refine St.WF.grow ?_ _ _ _ | refine St.WF.keep ?_ ?_ | (first | omega | (simp only [RowOk.lo, nx]; first | done | omega))))⟩
    rw [numP_out (by omega) hh]; rfl
end Go.Proofs.YtbcabejdchkpmaaDoor

namespace Go.Proofs.YtbcabejdchkpmaaDoor
open Go.RowKit
section
set_option maxRecDepth 200000
set_option maxHeartbeats 8000000
theorem bin_shr1 {P : Program} {t : TypeId} {x y : Operand} (a : Nat) : dbin P .shr t x y (.v (.int .u64 a)) (.v (.int .u64 1)) = some (True, .v (.int .u64 ((a / 2 : Nat) : Int))) := by
  simp [dbin, eqGuard, binOp, shift_shr .u64 .u64 (a : Int) 1 (by omega) (by decide), pureRun_bind, pureRun_pure]
theorem bin_and {P : Program} {t : TypeId} {x y : Operand} (k : IntKind) (a b : Int) : dbin P .and t x y (.v (.int k a)) (.v (.int k b)) = some (True, .v (.int k (bits .and k a b))) := by
  simp [dbin, eqGuard, binOp, intBits_and, pureRun_bind, pureRun_pure]
theorem and1 (q : Nat) (h : IsU64 q) : bits BinOp.and IntKind.u64 (q : Int) 1 = ((q % 2 : Nat) : Int) := by
  have := bits_and_u64_nat q 1 h (by omega)
  rw [Nat.and_one_is_mod] at this
  exact this
theorem unzig_xor (n : Int) (hn : IsI64 n) : bits BinOp.xor IntKind.i64 ((zig n / 2 : Nat) : Int) (-((zig n % 2 : Nat) : Int)) = n := by
  have hz := zig_u64 n hn
  unfold IsU64 at hz
  have hu : (if zig n % 2 = 1 then -((zig n / 2 : Nat) : Int) - 1 else ((zig n / 2 : Nat) : Int)) = n := by
    unfold zig; split <;> split <;> omega
  generalize zig n = q at *
  rw [← hu]
  show IntKind.i64.wrap ((BitVec.ofInt 64 _ ^^^ BitVec.ofInt 64 _).toNat : Int) = _
  by_cases ho : q % 2 = 1
  · rw [if_pos ho, ho, show BitVec.ofInt 64 (-((1 : Nat) : Int)) = BitVec.allOnes 64 from by decide, BitVec.xor_allOnes, BitVec.toNat_not, BitVec.toNat_ofInt]
    simp only [IntKind.wrap_i64]
    omega
  · have h0 : q % 2 = 0 := by omega
    rw [if_neg ho, h0, show BitVec.ofInt 64 (-((0 : Nat) : Int)) = 0#64 from by decide, BitVec.xor_zero, BitVec.toNat_ofInt]
    simp only [IntKind.wrap_i64]
    omega
end
end Go.Proofs.YtbcabejdchkpmaaDoor

namespace Go.Proofs.YtbcabejdchkpmaaDoor
open Go.RowKit
abbrev Rst := Nat × Int × Int
def nxt (x : Rst) : Except Int Nat → Rst
  | .ok s => if x.2.1 = 0 then (x.1 + s, x.2) else x
  | .error c => if x.2.1 = 0 then (x.1, c, (x.1 : Int)) else x
def qB (own : Own) (l : List UInt8) (x : Rst) : Ob := .box 43 [.sl own (l.map bD), .v (.int .i64 (x.1 : Int)), .v (.int .i64 x.2.1), .v (.int .i64 x.2.2)]
def byE : List UInt8 → Except Int Nat
  | [] => .error 2
  | _ => .ok 1
def boE : List UInt8 → Except Int Nat
  | [] => .error 2
  | b :: _ => if 1 < b.toNat then .error 2 else .ok 1
def nuE (l : List UInt8) (m : Nat) : Except Int Nat := match numP l with
  | none => .error 2
  | some (n, s) => if m < n then .error 15 else .ok s
def bsE (l : List UInt8) (m : Nat) : Except Int Nat := match numP l with
  | none => .error 2
  | some (n, s) => if m < n then .error 3 else if l.length - s < n then .error 2 else .ok (s + n)
def rwE (l : List UInt8) (m : Nat) : Except Int Nat := if l.length < m then .error 2 else .ok m
def faE (c : Int) : Except Int Nat := if c = 0 then .ok 0 else .error c
def byV (l : List UInt8) (x : Rst) : UInt8 := if x.2.1 = 0 then (l.drop x.1).headD 0 else 0
def boV (l : List UInt8) (x : Rst) : Bool := if x.2.1 = 0 then decide ((l.drop x.1).headD 0 = 1) else false
def nuV (l : List UInt8) (x : Rst) (m : Nat) : Nat := if x.2.1 = 0 then (match numP (l.drop x.1) with
  | none => 0
  | some (n, _) => if m < n then 0 else n) else 0
def bsV (l : List UInt8) (x : Rst) (m : Nat) : List UInt8 := if x.2.1 = 0 then (match numP (l.drop x.1) with
  | none => []
  | some (n, s) => if m < n then [] else if (l.drop x.1).length - s < n then [] else ((l.drop x.1).drop s).take n) else []
def rwV (l : List UInt8) (x : Rst) (m : Nat) : List UInt8 := if x.2.1 = 0 then (if (l.drop x.1).length < m then [] else (l.drop x.1).take m) else []
section
set_option maxRecDepth 200000
set_option maxHeartbeats 8000000
theorem RFr.put (q : Nat) (S : St) (o : Ob) : RFr q S (S.set q o) := ⟨Nat.le_refl _, fun j o' hj e => by rw [set_ne hj, e]⟩
theorem left_q {S : St} {q : Nat} {own : Own} {l : List UInt8} {x : Rst} (hq : S.ob q = some (qB own l x)) (hi : x.1 ≤ l.length) :
    DCalls Tryd.prog 52 [.loc q 0] S fun d T => d = .sl .no ((l.drop x.1).map bD) ∧ T = S := by
  unfold qB at hq
  refine dcalls_inline mixed Tryd.func52 rfl (fun _ _ => by kernel_rfl) (rs := [.tmp 2]) rfl (by kernel_rfl) (fun hS => ?_)
  have hib : (x.1 : Int) ≤ (l.length : Int) := by omega
  have hwd := eq_true (wd_c l)
  have hsl : List.drop x.1 (l.map bD) = (l.drop x.1).map bD := List.map_drop.symm
  (simp (disch := first | decide | omega | (simp only [nx]; first | done | omega)) only [go_sem]; (repeat with_reducible refine aI ?_))
  refine ddraw_mk 10 (by kernel_rfl) ?_
  (simp (disch := first | decide | omega | (simp only [nx]; first | done | omega)) only [go_sem, hq, hib, hwd, take_bD, hsl]; (repeat with_reducible refine aI ?_))
theorem fail_q {S : St} {q : Nat} {own : Own} {l : List UInt8} {x : Rst} (c : Int) (hq : S.ob q = some (qB own l x)) :
    DCalls Tryd.prog 50 [.loc q 0, .v (.int .i64 c)] S fun d T => d = undefD ∧ T.ob q = some (qB own l (nxt x (faE c))) ∧ RFr q S T := by
  obtain ⟨i, e, p⟩ := x
  unfold qB at hq
  refine dcalls_inline mixed Tryd.func50 rfl (fun _ _ => by kernel_rfl) (rs := []) rfl (by kernel_rfl) (fun hS => ?_)
  by_cases he : e = 0
  · subst he
    have b1 : ((0 : Int) == 0) = true := by decide
    by_cases hc : c = 0
    · subst hc
      have b2 : ((0 : Int) != 0) = false := by decide
      (simp (disch := first | decide | omega | (simp only [nx]; first | done | omega)) only [go_sem, hq, b1, b2]; (repeat with_reducible refine aI ?_))
      exact ⟨rfl, RFr.refl _ _⟩
    · have b2 : (c != 0) = true := by simpa using hc
      (simp (disch := first | decide | omega | (simp only [nx]; first | done | omega)) only [go_sem, hq, b1, b2]; (repeat with_reducible refine aI ?_))
      refine ⟨?_, ⟨Nat.le_refl _, fun j o hj e => ?_⟩⟩
      · simp only [faE, if_neg hc, nxt, qB, if_true]
      · rw [set_ne hj, set_ne hj, e]
  · have b1 : (e == 0) = false := by simpa using he
    (simp (disch := first | decide | omega | (simp only [nx]; first | done | omega)) only [go_sem, hq, b1]; (repeat with_reducible refine aI ?_))
    refine ⟨?_, RFr.refl _ _⟩
    unfold faE
    split <;> simp only [nxt, if_neg he, qB]
theorem take_q {S : St} {q : Nat} {own : Own} {l : List UInt8} {x : Rst} {n : Nat} (hq : S.ob q = some (qB own l x)) (hn : x.1 + n ≤ l.length) (hl : l.length ≤ 1048576) :
    DCalls Tryd.prog 66 [.loc q 0, .v (.int .i64 (n : Int))] S fun d T => d = .sl .no (((l.drop x.1).take n).map bD) ∧ T.ob q = some (qB own l (x.1 + n, x.2)) ∧ RFr q S T := by
  obtain ⟨i, e, p⟩ := x
  unfold qB at hq
  refine dcalls_inline mixed Tryd.func66 rfl (fun _ _ => by kernel_rfl) (rs := [.tmp 4]) rfl (by kernel_rfl) (fun hS => ?_)
  have w1 : IntKind.i64.wrap ((i : Int) + (n : Int)) = ((i + n : Nat) : Int) := by rw [IntWalk.i64_in _ ⟨by simp only at hn; omega, by simp only at hn; omega⟩]; push_cast; rfl
  have hle : ((i + n : Nat) : Int) ≤ (l.length : Int) := by simp only at hn; omega
  have hle0 : (i : Int) ≤ ((i + n : Nat) : Int) := by omega
  have hsl : List.drop i (List.take (i + n) (l.map bD)) = ((l.drop i).take n).map bD := by rw [← List.map_take, ← List.map_drop, List.drop_take, Nat.add_sub_cancel_left]
  have hwd := eq_true (wd_c l)
  have heA : elT Tryd.prog 30 = some 5 := by kernel_rfl
  have hzA : szOf Tryd.prog 5 = 1 := by kernel_rfl
  have hbA : bytesOf Tryd.prog 5 = 1 := by kernel_rfl
  (simp (disch := first | decide | omega | (simp only [nx]; first | done | omega)) only [go_sem]; (repeat with_reducible refine aI ?_))
  refine ddraw_mk 18 (by kernel_rfl) ?_
  (simp (disch := first | decide | omega | (simp only [nx]; first | done | omega)) only [go_sem, hq, w1, hle, hle0, hsl, hwd, heA, hzA, hbA]; (repeat with_reducible refine aI ?_))
  exact ⟨⟨wd_c _, by simp only [List.length_take, List.length_drop]; omega, by simp only [List.length_take, List.length_drop]; omega⟩, rfl, RFr.put _ _ _⟩
theorem nil0 : (((0 : Nat) : Int) == 0) = true := rfl
theorem succ0 (n : Nat) : (((n + 1 : Nat) : Int) == 0) = false := by simp; omega
theorem byte_q {S : St} {q : Nat} {own : Own} {l : List UInt8} {x : Rst} (hq : S.ob q = some (qB own l x)) (hi : x.1 ≤ l.length) (hl : l.length ≤ 1048576) :
    DCalls Tryd.prog 45 [.loc q 0] S fun d T => d = bD (byV l x) ∧ T.ob q = some (qB own l (nxt x (byE (l.drop x.1)))) ∧ RFr q S T := by
  obtain ⟨i, c, p⟩ := x
  have hq0 := hq
  unfold qB at hq
  refine dcalls_inline mixed Tryd.func45 rfl (fun _ _ => by kernel_rfl) (rs := [.tmp 2]) rfl (by kernel_rfl) (fun hS => ?_)
  have b1 : ((0 : Int) == 0) = true := by decide
  have b2 : ((0 : Int) != 0) = false := by decide
  have b3 : ((2 : Int) != 0) = true := by decide
  by_cases hc : c = 0
  · subst hc
    (simp (disch := first | decide | omega | (simp only [nx]; first | done | omega)) only [go_sem, hq, b1]; (repeat with_reducible refine aI ?_))
    refine (left_q hq0 hi).mono ?_
    rintro _ T ⟨rfl, rfl⟩
    cases hd : l.drop i with
    | nil =>
      simp only [byV, hd]
      (simp (disch := first | decide | omega | (simp only [nx]; first | done | omega)) only [go_sem, hq, nil0, List.map_nil, List.length_nil]; (repeat with_reducible refine aI ?_))
      refine (fail_q 2 hq0).mono ?_
      rintro _ T1 ⟨rfl, hT, hF⟩
      have hT' : T1.ob q = some (.box 43 [.sl own (l.map bD), .v (.int .i64 (i : Int)), .v (.int .i64 2), .v (.int .i64 (i : Int))]) := hT
      (simp (disch := first | decide | omega | (simp only [nx]; first | done | omega)) only [go_sem, hT', b3]; (repeat with_reducible refine aI ?_))
      (repeat' refine And.intro ?_ ?_) <;> first | exact hF | exact hT | rfl
    | cons b r =>
      have hr := congrArg List.length hd
      rw [List.length_drop, List.length_cons] at hr
      simp only [byV, hd]
      (simp (disch := first | decide | omega | (simp only [nx]; first | done | omega)) only [go_sem, hq, succ0, List.map_cons, List.length_cons, b2]; (repeat with_reducible refine aI ?_))
      refine (take_q (n := 1) hq0 (by simp only at hi ⊢; omega) hl).mono ?_
      rintro _ T1 ⟨rfl, hT, hF⟩
      simp only [hd, List.take_succ_cons, List.take_zero]
      (simp (disch := first | decide | omega | (simp only [nx]; first | done | omega)) only [go_sem, List.map_cons, List.map_nil, List.length_cons, bD]; (repeat with_reducible refine aI ?_))
      (repeat' refine And.intro ?_ ?_) <;> first | exact hF | exact hT | rfl
  · have b4 : (c == 0) = false := by simpa using hc
    have b5 : (c != 0) = true := by simpa using hc
    (simp (disch := first | decide | omega | (simp only [nx]; first | done | omega)) only [go_sem, hq, b4, b5]; (repeat with_reducible refine aI ?_))
    simp only [byV, if_neg hc]
    refine ⟨rfl, ?_, RFr.refl _ _⟩
    unfold byE
    split <;> simp only [nxt, if_neg hc, qB]
theorem numP_pos {l : List UInt8} {n s : Nat} (h : numP l = some (n, s)) : 0 < s := (numGo_bounds l 0 0 (by omega) (by simp) (by omega) n s h).2.1
theorem nuE_no {x : Rst} {e : Except Int Nat} (h : x.2.1 ≠ 0) : nxt x e = x := by
  cases e <;> simp only [nxt, if_neg h]
theorem number_q {S : St} {q : Nat} {own : Own} {l : List UInt8} {x : Rst} {m : Nat} (hq : S.ob q = some (qB own l x)) (hi : x.1 ≤ l.length) (hl : l.length ≤ 1048576) :
    DCalls Tryd.prog 46 [.loc q 0, .v (.int .u64 (m : Int))] S fun d T => d = .v (.int .u64 ((nuV l x m : Nat) : Int)) ∧ T.ob q = some (qB own l (nxt x (nuE (l.drop x.1) m))) ∧ RFr q S T := by
  obtain ⟨i, c, p⟩ := x
  have hq0 := hq
  unfold qB at hq
  refine dcalls_inline mixed Tryd.func46 rfl (fun _ _ => by kernel_rfl) (rs := [.tmp 4]) rfl (by kernel_rfl) (fun hS => ?_)
  have b2 : ((0 : Int) != 0) = false := by decide
  have b3 : ((2 : Int) != 0) = true := by decide
  have b4 : ((15 : Int) != 0) = true := by decide
  have b6 : ((0 : Int) == 0) = true := by decide
  by_cases hc : c = 0
  · subst hc
    (simp (disch := first | decide | omega | (simp only [nx]; first | done | omega)) only [go_sem, hq, b2]; (repeat with_reducible refine aI ?_))
    refine (left_q hq0 hi).mono ?_
    rintro _ T ⟨rfl, rfl⟩
    (simp (disch := first | decide | omega | (simp only [nx]; first | done | omega)) only [go_sem]; (repeat with_reducible refine aI ?_))
    refine DCalls.of_pure (parse_d .no (l.drop i) (by rw [List.length_drop]; omega)) ?_
    cases hN : numP (l.drop i) with
    | none =>
      simp only [nuV, nuE, hN]
      (simp (disch := first | decide | omega | (simp only [nx]; first | done | omega)) only [go_sem, parD, b6]; (repeat with_reducible refine aI ?_))
      refine (fail_q 2 hq0).mono ?_
      rintro _ T1 ⟨rfl, hT, hF⟩
      have hT' : T1.ob q = some (.box 43 [.sl own (l.map bD), .v (.int .i64 (i : Int)), .v (.int .i64 2), .v (.int .i64 (i : Int))]) := hT
      (simp (disch := first | decide | omega | (simp only [nx]; first | done | omega)) only [go_sem, hT', b3]; (repeat with_reducible refine aI ?_))
      (repeat' refine And.intro ?_ ?_) <;> first | exact hF | exact hT | rfl
    | some r =>
      obtain ⟨n, s⟩ := r
      have hs := numP_pos hN
      have hsl := (numP_le hN).1
      rw [List.length_drop] at hsl
      have b7 : ((s : Int) == 0) = false := by simp; omega
      by_cases hm : m < n
      · have b8 : decide ((m : Int) < (n : Int)) = true := decide_eq_true (by omega)
        simp only [nuV, nuE, hN, if_pos hm]
        (simp (disch := first | decide | omega | (simp only [nx]; first | done | omega)) only [go_sem, parD, b7, b8]; (repeat with_reducible refine aI ?_))
        refine (fail_q 15 hq0).mono ?_
        rintro _ T1 ⟨rfl, hT, hF⟩
        have hT' : T1.ob q = some (.box 43 [.sl own (l.map bD), .v (.int .i64 (i : Int)), .v (.int .i64 15), .v (.int .i64 (i : Int))]) := hT
        (simp (disch := first | decide | omega | (simp only [nx]; first | done | omega)) only [go_sem, hT', b4]; (repeat with_reducible refine aI ?_))
        (repeat' refine And.intro ?_ ?_) <;> first | exact hF | exact hT | rfl
      · have b8 : decide ((m : Int) < (n : Int)) = false := decide_eq_false (by omega)
        simp only [nuV, nuE, hN, if_neg hm]
        (simp (disch := first | decide | omega | (simp only [nx]; first | done | omega)) only [go_sem, parD, b7, b8, hq, b2]; (repeat with_reducible refine aI ?_))
        refine (take_q (n := s) hq0 (by simp only at hi ⊢; omega) hl).mono ?_
        rintro _ T1 ⟨rfl, hT, hF⟩
        (simp (disch := first | decide | omega | (simp only [nx]; first | done | omega)) only [go_sem]; (repeat with_reducible refine aI ?_))
        (repeat' refine And.intro ?_ ?_) <;> first | exact hF | exact hT | rfl
  · have b5 : (c != 0) = true := by simpa using hc
    (simp (disch := first | decide | omega | (simp only [nx]; first | done | omega)) only [go_sem, hq, b5]; (repeat with_reducible refine aI ?_))
    simp only [nuV, if_neg hc]
    refine ⟨rfl, ?_, RFr.refl _ _⟩
    rw [nuE_no (x := (i, c, p)) hc]
    rfl
def unz (q : Nat) : Int := if q % 2 = 1 then -((q / 2 : Nat) : Int) - 1 else ((q / 2 : Nat) : Int)
theorem unz_ok {q : Nat} (h : IsU64 q) : IsI64 (unz q) ∧ zig (unz q) = q := by
  unfold IsU64 at h
  unfold IsI64 unz zig
  split
  · constructor
    · omega
    · split <;> omega
  · constructor
    · omega
    · split <;> omega
theorem nuV_u64 (l : List UInt8) (x : Rst) (m : Nat) : IsU64 (nuV l x m) := by
  unfold nuV
  split
  · split
    · unfold IsU64; omega
    · rename_i n s h
      split
      · unfold IsU64; omega
      · exact (numP_le h).2
  · unfold IsU64; omega
theorem int_q {S : St} {q : Nat} {own : Own} {l : List UInt8} {x : Rst} (hq : S.ob q = some (qB own l x)) (hi : x.1 ≤ l.length) (hl : l.length ≤ 1048576) :
    DCalls Tryd.prog 47 [.loc q 0] S fun d T => d = .v (.int .i64 (unz (nuV l x 18446744073709551615))) ∧ T.ob q = some (qB own l (nxt x (nuE (l.drop x.1) 18446744073709551615))) ∧ RFr q S T := by
  refine dcalls_inline mixed Tryd.func47 rfl (fun _ _ => by kernel_rfl) (rs := [.tmp 2]) rfl (by kernel_rfl) (fun hS => ?_)
  (simp (disch := first | decide | omega | (simp only [nx]; first | done | omega)) only [go_sem]; (repeat with_reducible refine aI ?_))
  refine (number_q (m := 18446744073709551615) hq hi hl).mono ?_
  rintro _ T ⟨rfl, hT, hF⟩
  have hu := nuV_u64 l x 18446744073709551615
  generalize nuV l x 18446744073709551615 = n at *
  unfold IsU64 at hu
  have e1 : (n : Int).tmod 2 = ((n % 2 : Nat) : Int) := rfl
  have e2 : (n : Int).tdiv 2 = ((n / 2 : Nat) : Int) := rfl
  have w1 : IntKind.u64.wrap ((n / 2 : Nat) : Int) = ((n / 2 : Nat) : Int) := wrap_u64 _ (by unfold IsU64; omega)
  have w2 : IntKind.i64.wrap ((n / 2 : Nat) : Int) = ((n / 2 : Nat) : Int) := IntWalk.i64_in _ ⟨by omega, by omega⟩
  have w3 : IntKind.i64.wrap (0 - ((n / 2 : Nat) : Int)) = -((n / 2 : Nat) : Int) := by rw [IntKind.wrap_i64]; omega
  have w4 : IntKind.i64.wrap (-((n / 2 : Nat) : Int) - 1) = -((n / 2 : Nat) : Int) - 1 := by rw [IntKind.wrap_i64]; omega
  unfold unz
  by_cases h : n % 2 = 1
  · have b1 : (((n % 2 : Nat) : Int) == 1) = true := by rw [h]; rfl
    rw [if_pos h]
    (simp (disch := first | decide | omega | (simp only [nx]; first | done | omega)) only [go_sem, bin_rem, bin_quo, e1, e2, b1, w1, w2, w3, w4, cv_u64i64]; (repeat with_reducible refine aI ?_))
    (repeat' refine And.intro ?_ ?_) <;> first | exact hF | exact hT | rfl
  · have b1 : (((n % 2 : Nat) : Int) == 1) = false := by simp; omega
    rw [if_neg h]
    (simp (disch := first | decide | omega | (simp only [nx]; first | done | omega)) only [go_sem, bin_rem, bin_quo, e1, e2, b1, w1, w2, w3, w4, cv_u64i64]; (repeat with_reducible refine aI ?_))
    (repeat' refine And.intro ?_ ?_) <;> first | exact hF | exact hT | rfl
theorem bool_q {S : St} {q : Nat} {own : Own} {l : List UInt8} {x : Rst} (hq : S.ob q = some (qB own l x)) (hi : x.1 ≤ l.length) (hl : l.length ≤ 1048576) :
    DCalls Tryd.prog 48 [.loc q 0] S fun d T => d = .v (.bool (boV l x)) ∧ T.ob q = some (qB own l (nxt x (boE (l.drop x.1)))) ∧ RFr q S T := by
  obtain ⟨i, c, p⟩ := x
  have hq0 := hq
  unfold qB at hq
  refine dcalls_inline mixed Tryd.func48 rfl (fun _ _ => by kernel_rfl) (rs := [.tmp 2]) rfl (by kernel_rfl) (fun hS => ?_)
  have b1 : ((0 : Int) == 0) = true := by decide
  have b2 : ((2 : Int) == 0) = false := by decide
  by_cases hc : c = 0
  · subst hc
    (simp (disch := first | decide | omega | (simp only [nx]; first | done | omega)) only [go_sem, hq, b1]; (repeat with_reducible refine aI ?_))
    refine (left_q hq0 hi).mono ?_
    rintro _ T ⟨rfl, rfl⟩
    cases hd : l.drop i with
    | nil =>
      simp only [boV, hd]
      (simp (disch := first | decide | omega | (simp only [nx]; first | done | omega)) only [go_sem, hq, nil0, List.map_nil, List.length_nil]; (repeat with_reducible refine aI ?_))
      refine (fail_q 2 hq0).mono ?_
      rintro _ T1 ⟨rfl, hT, hF⟩
      have hT' : T1.ob q = some (.box 43 [.sl own (l.map bD), .v (.int .i64 (i : Int)), .v (.int .i64 2), .v (.int .i64 (i : Int))]) := hT
      (simp (disch := first | decide | omega | (simp only [nx]; first | done | omega)) only [go_sem, hT', b2]; (repeat with_reducible refine aI ?_))
      (repeat' refine And.intro ?_ ?_) <;> first | exact hF | exact hT | rfl
    | cons b r =>
      have hr := congrArg List.length hd
      rw [List.length_drop, List.length_cons] at hr
      simp only [boV, hd]
      (simp (disch := first | decide | omega | (simp only [nx]; first | done | omega)) only [go_sem, hq, succ0, List.map_cons, List.length_cons]; (repeat with_reducible refine aI ?_))
      refine (left_q hq0 hi).mono ?_
      rintro _ T ⟨rfl, rfl⟩
      simp only [hd]
      by_cases hb : 1 < b.toNat
      · have b3 : decide ((1 : Int) < (b.toNat : Int)) = true := decide_eq_true (by omega)
        have hbe : boE (b :: r) = .error 2 := if_pos hb
        rw [hbe]
        (simp (disch := first | decide | omega | (simp only [nx]; first | done | omega)) only [go_sem, hq, succ0, List.map_cons, List.length_cons, bD, b3]; (repeat with_reducible refine aI ?_))
        refine (fail_q 2 hq0).mono ?_
        rintro _ T1 ⟨rfl, hT, hF⟩
        have hT' : T1.ob q = some (.box 43 [.sl own (l.map bD), .v (.int .i64 (i : Int)), .v (.int .i64 2), .v (.int .i64 (i : Int))]) := hT
        (simp (disch := first | decide | omega | (simp only [nx]; first | done | omega)) only [go_sem, hT', b2]; (repeat with_reducible refine aI ?_))
        have : b ≠ 1 := by rintro rfl; exact absurd hb (by decide)
        (repeat' refine And.intro ?_ ?_) <;> first | exact hF | rfl | simp [this]
      · have b3 : decide ((1 : Int) < (b.toNat : Int)) = false := decide_eq_false (by omega)
        have hbe : boE (b :: r) = .ok 1 := if_neg hb
        rw [hbe]
        have b4 : ((b.toNat : Int) == 1) = decide (b = 1) := by
          by_cases h1 : b = 1
          · subst h1; rfl
          · have : b.toNat ≠ 1 := fun h => h1 (UInt8.toNat_inj.1 h)
            rw [decide_eq_false h1]
            simp; omega
        (simp (disch := first | decide | omega | (simp only [nx]; first | done | omega)) only [go_sem, hq, succ0, List.map_cons, List.length_cons, bD, b3, b1]; (repeat with_reducible refine aI ?_))
        refine (take_q (n := 1) hq0 (by simp only at hi ⊢; omega) hl).mono ?_
        rintro _ T1 ⟨rfl, hT, hF⟩
        simp only [hd, List.take_succ_cons, List.take_zero]
        (simp (disch := first | decide | omega | (simp only [nx]; first | done | omega)) only [go_sem, List.map_cons, List.map_nil, List.length_cons, bD, b4]; (repeat with_reducible refine aI ?_))
        (repeat' refine And.intro ?_ ?_) <;> first | exact hF | exact hT | rfl | simp
  · have b4 : (c == 0) = false := by simpa using hc
    (simp (disch := first | decide | omega | (simp only [nx]; first | done | omega)) only [go_sem, hq, b4]; (repeat with_reducible refine aI ?_))
    simp only [boV, if_neg hc]
    refine ⟨trivial, ?_, RFr.refl _ _⟩
    rw [nuE_no (x := (i, c, p)) hc]
    rfl
theorem bytes_q {S : St} {q : Nat} {own : Own} {l : List UInt8} {x : Rst} {mx : Int} (hm : IsI64 mx) (hq : S.ob q = some (qB own l x)) (hi : x.1 ≤ l.length) (hl : l.length ≤ 1048576) :
    DCalls Tryd.prog 49 [.loc q 0, .v (.int .i64 mx)] S fun d T => (∃ o, d = .sl o ((bsV l x mx.toNat).map bD)) ∧ T.ob q = some (qB own l (nxt x (bsE (l.drop x.1) mx.toNat))) ∧ RFr q S T := by
  obtain ⟨i, c, p⟩ := x
  have hq0 := hq
  unfold qB at hq
  unfold IsI64 at hm
  refine dcalls_inline mixed Tryd.func49 rfl (fun _ _ => by kernel_rfl) (rs := [.tmp 4]) rfl (by kernel_rfl) (fun hS => ?_)
  have b2 : ((0 : Int) != 0) = false := by decide
  have b6 : ((0 : Int) == 0) = true := by decide
  have wm : IntKind.u64.wrap (mx.toNat : Int) = (mx.toNat : Int) := wrap_u64 _ (by unfold IsU64; omega)
  have key : ∀ (M : Int), M = (mx.toNat : Int) → IntKind.u64.wrap M = (mx.toNat : Int) := fun M h => by rw [h]; exact wm
  by_cases hc : c = 0
  · subst hc
    (simp (disch := first | decide | omega | (simp only [nx]; first | done | omega)) only [go_sem, hq, b2]; (repeat with_reducible refine aI ?_))
    refine (left_q hq0 hi).mono ?_
    rintro _ T ⟨rfl, rfl⟩
    (simp (disch := first | decide | omega | (simp only [nx]; first | done | omega)) only [go_sem]; (repeat with_reducible refine aI ?_))
    refine DCalls.of_pure (parse_d .no (l.drop i) (by rw [List.length_drop]; omega)) ?_
    by_cases hneg : mx < 0
    · have n1 : decide (mx < 0) = true := decide_eq_true hneg
      have h0 : mx.toNat = 0 := by omega
      have wM : IntKind.u64.wrap 0 = (mx.toNat : Int) := by rw [h0]; decide
      cases hN : numP (l.drop i) with
      | none =>
        simp only [bsV, bsE, hN, if_true]
        (simp (disch := first | decide | omega | (simp only [nx]; first | done | omega)) only [go_sem, parD, b6, n1]; (repeat with_reducible refine aI ?_))
        refine (fail_q 2 hq0).mono ?_
        rintro _ T1 ⟨rfl, hT, hF⟩
        (simp (disch := first | decide | omega | (simp only [nx]; first | done | omega)) only [go_sem]; (repeat with_reducible refine aI ?_))
        (repeat' refine And.intro ?_ ?_) <;> first | exact hF | exact hT | exact ⟨.full, rfl⟩
      | some r =>
        obtain ⟨n, s⟩ := r
        have hs := numP_pos hN
        have hsl := (numP_le hN).1
        have hn := (numP_le hN).2
        rw [List.length_drop] at hsl
        have b7 : ((s : Int) == 0) = false := by simp; omega
        by_cases hmn : mx.toNat < n
        · have b8 : decide ((mx.toNat : Int) < (n : Int)) = true := decide_eq_true (by omega)
          simp only [bsV, bsE, hN, if_pos hmn, if_true]
          (simp (disch := first | decide | omega | (simp only [nx]; first | done | omega)) only [go_sem, parD, b7, n1, wM, b8]; (repeat with_reducible refine aI ?_))
          refine (fail_q 3 hq0).mono ?_
          rintro _ T1 ⟨rfl, hT, hF⟩
          (simp (disch := first | decide | omega | (simp only [nx]; first | done | omega)) only [go_sem]; (repeat with_reducible refine aI ?_))
          (repeat' refine And.intro ?_ ?_) <;> first | exact hF | exact hT | exact ⟨.full, rfl⟩
        · have b8 : decide ((mx.toNat : Int) < (n : Int)) = false := decide_eq_false (by omega)
          have wl : IntKind.i64.wrap (((l.drop i).length : Int) - (s : Int)) = (((l.drop i).length - s : Nat) : Int) := by rw [IntWalk.i64_in _ ⟨by rw [List.length_drop]; omega, by rw [List.length_drop]; omega⟩]; rw [List.length_drop]; omega
          have wu : IntKind.u64.wrap (((l.drop i).length - s : Nat) : Int) = (((l.drop i).length - s : Nat) : Int) := wrap_u64 _ (by unfold IsU64; rw [List.length_drop]; omega)
          simp only [bsV, bsE, hN, if_neg hmn, if_true]
          (simp (disch := first | decide | omega | (simp only [nx]; first | done | omega)) only [go_sem, parD, b7, n1, wM, b8]; (repeat with_reducible refine aI ?_))
          refine (left_q hq0 hi).mono ?_
          rintro _ T ⟨rfl, rfl⟩
          by_cases hln : (l.drop i).length - s < n
          · have b9 : decide ((((l.drop i).length - s : Nat) : Int) < (n : Int)) = true := decide_eq_true (by omega)
            simp only [if_pos hln]
            (simp (disch := first | decide | omega | (simp only [nx]; first | done | omega)) only [go_sem, wl, wu, b9]; (repeat with_reducible refine aI ?_))
            refine (fail_q 2 hq0).mono ?_
            rintro _ T1 ⟨rfl, hT, hF⟩
            (simp (disch := first | decide | omega | (simp only [nx]; first | done | omega)) only [go_sem]; (repeat with_reducible refine aI ?_))
            (repeat' refine And.intro ?_ ?_) <;> first | exact hF | exact hT | exact ⟨.full, rfl⟩
          · have b9 : decide ((((l.drop i).length - s : Nat) : Int) < (n : Int)) = false := decide_eq_false (by omega)
            have wn : IntKind.i64.wrap (n : Int) = (n : Int) := IntWalk.i64_in _ ⟨by omega, by rw [List.length_drop] at hln; omega⟩
            simp only [if_neg hln]
            rw [List.length_drop] at hln
            (simp (disch := first | decide | omega | (simp only [nx]; first | done | omega)) only [go_sem, wl, wu, b9]; (repeat with_reducible refine aI ?_))
            refine (take_q (n := s) hq0 (by simp only at hi ⊢; omega) hl).mono ?_
            rintro _ T1 ⟨rfl, hT, hF⟩
            (simp (disch := first | decide | omega | (simp only [nx]; first | done | omega)) only [go_sem, wn]; (repeat with_reducible refine aI ?_))
            refine (take_q (x := (i + s, 0, p)) (n := n) hT (by simp only at hi ⊢; omega) hl).mono ?_
            rintro _ T2 ⟨rfl, hT2, hF2⟩
            (simp (disch := first | decide | omega | (simp only [nx]; first | done | omega)) only [go_sem]; (repeat with_reducible refine aI ?_))
            refine ⟨⟨.no, by rw [List.drop_drop]⟩, ?_, hF.trans hF2⟩
            rw [hT2]
            simp only [nxt, if_true, Nat.add_assoc]
    · have n1 : decide (mx < 0) = false := decide_eq_false hneg
      have wM : IntKind.u64.wrap mx = (mx.toNat : Int) := key mx (by omega)
      cases hN : numP (l.drop i) with
      | none =>
        simp only [bsV, bsE, hN, if_true]
        (simp (disch := first | decide | omega | (simp only [nx]; first | done | omega)) only [go_sem, parD, b6, n1]; (repeat with_reducible refine aI ?_))
        refine (fail_q 2 hq0).mono ?_
        rintro _ T1 ⟨rfl, hT, hF⟩
        (simp (disch := first | decide | omega | (simp only [nx]; first | done | omega)) only [go_sem]; (repeat with_reducible refine aI ?_))
        (repeat' refine And.intro ?_ ?_) <;> first | exact hF | exact hT | exact ⟨.full, rfl⟩
      | some r =>
        obtain ⟨n, s⟩ := r
        have hs := numP_pos hN
        have hsl := (numP_le hN).1
        have hn := (numP_le hN).2
        rw [List.length_drop] at hsl
        have b7 : ((s : Int) == 0) = false := by simp; omega
        by_cases hmn : mx.toNat < n
        · have b8 : decide ((mx.toNat : Int) < (n : Int)) = true := decide_eq_true (by omega)
          simp only [bsV, bsE, hN, if_pos hmn, if_true]
          (simp (disch := first | decide | omega | (simp only [nx]; first | done | omega)) only [go_sem, parD, b7, n1, wM, b8]; (repeat with_reducible refine aI ?_))
          refine (fail_q 3 hq0).mono ?_
          rintro _ T1 ⟨rfl, hT, hF⟩
          (simp (disch := first | decide | omega | (simp only [nx]; first | done | omega)) only [go_sem]; (repeat with_reducible refine aI ?_))
          (repeat' refine And.intro ?_ ?_) <;> first | exact hF | exact hT | exact ⟨.full, rfl⟩
        · have b8 : decide ((mx.toNat : Int) < (n : Int)) = false := decide_eq_false (by omega)
          have wl : IntKind.i64.wrap (((l.drop i).length : Int) - (s : Int)) = (((l.drop i).length - s : Nat) : Int) := by rw [IntWalk.i64_in _ ⟨by rw [List.length_drop]; omega, by rw [List.length_drop]; omega⟩]; rw [List.length_drop]; omega
          have wu : IntKind.u64.wrap (((l.drop i).length - s : Nat) : Int) = (((l.drop i).length - s : Nat) : Int) := wrap_u64 _ (by unfold IsU64; rw [List.length_drop]; omega)
          simp only [bsV, bsE, hN, if_neg hmn, if_true]
          (simp (disch := first | decide | omega | (simp only [nx]; first | done | omega)) only [go_sem, parD, b7, n1, wM, b8]; (repeat with_reducible refine aI ?_))
          refine (left_q hq0 hi).mono ?_
          rintro _ T ⟨rfl, rfl⟩
          by_cases hln : (l.drop i).length - s < n
          · have b9 : decide ((((l.drop i).length - s : Nat) : Int) < (n : Int)) = true := decide_eq_true (by omega)
            simp only [if_pos hln]
            (simp (disch := first | decide | omega | (simp only [nx]; first | done | omega)) only [go_sem, wl, wu, b9]; (repeat with_reducible refine aI ?_))
            refine (fail_q 2 hq0).mono ?_
            rintro _ T1 ⟨rfl, hT, hF⟩
            (simp (disch := first | decide | omega | (simp only [nx]; first | done | omega)) only [go_sem]; (repeat with_reducible refine aI ?_))
            (repeat' refine And.intro ?_ ?_) <;> first | exact hF | exact hT | exact ⟨.full, rfl⟩
          · have b9 : decide ((((l.drop i).length - s : Nat) : Int) < (n : Int)) = false := decide_eq_false (by omega)
            have wn : IntKind.i64.wrap (n : Int) = (n : Int) := IntWalk.i64_in _ ⟨by omega, by rw [List.length_drop] at hln; omega⟩
            simp only [if_neg hln]
            rw [List.length_drop] at hln
            (simp (disch := first | decide | omega | (simp only [nx]; first | done | omega)) only [go_sem, wl, wu, b9]; (repeat with_reducible refine aI ?_))
            refine (take_q (n := s) hq0 (by simp only at hi ⊢; omega) hl).mono ?_
            rintro _ T1 ⟨rfl, hT, hF⟩
            (simp (disch := first | decide | omega | (simp only [nx]; first | done | omega)) only [go_sem, wn]; (repeat with_reducible refine aI ?_))
            refine (take_q (x := (i + s, 0, p)) (n := n) hT (by simp only at hi ⊢; omega) hl).mono ?_
            rintro _ T2 ⟨rfl, hT2, hF2⟩
            (simp (disch := first | decide | omega | (simp only [nx]; first | done | omega)) only [go_sem]; (repeat with_reducible refine aI ?_))
            refine ⟨⟨.no, by rw [List.drop_drop]⟩, ?_, hF.trans hF2⟩
            rw [hT2]
            simp only [nxt, if_true, Nat.add_assoc]
  · have b5 : (c != 0) = true := by simpa using hc
    (simp (disch := first | decide | omega | (simp only [nx]; first | done | omega)) only [go_sem, hq, b5]; (repeat with_reducible refine aI ?_))
    simp only [bsV, if_neg hc]
    refine ⟨⟨.full, rfl⟩, ?_, RFr.refl _ _⟩
    rw [nuE_no (x := (i, c, p)) hc]
    rfl
theorem raw_q {S : St} {q : Nat} {own : Own} {l : List UInt8} {x : Rst} {mx : Int} (hm : IsI64 mx) (hq : S.ob q = some (qB own l x)) (hi : x.1 ≤ l.length) (hl : l.length ≤ 1048576) :
    DCalls Tryd.prog 51 [.loc q 0, .v (.int .i64 mx)] S fun d T => (∃ o, d = .sl o ((rwV l x mx.toNat).map bD)) ∧ T.ob q = some (qB own l (nxt x (rwE (l.drop x.1) mx.toNat))) ∧ RFr q S T := by
  obtain ⟨i, c, p⟩ := x
  have hq0 := hq
  unfold qB at hq
  unfold IsI64 at hm
  refine dcalls_inline mixed Tryd.func51 rfl (fun _ _ => by kernel_rfl) (rs := [.tmp 4]) rfl (by kernel_rfl) (fun hS => ?_)
  have b2 : ((0 : Int) != 0) = false := by decide
  have b3 : ((2 : Int) != 0) = true := by decide
  have b6 : ((0 : Int) == 0) = true := by decide
  by_cases hneg : mx < 0
  · have n1 : decide (mx < 0) = true := decide_eq_true hneg
    by_cases hc : c = 0
    · subst hc
      (simp (disch := first | decide | omega | (simp only [nx]; first | done | omega)) only [go_sem, hq, n1, b6]; (repeat with_reducible refine aI ?_))
      refine (left_q hq0 hi).mono ?_
      rintro _ T ⟨rfl, rfl⟩
      by_cases hln : (l.drop i).length < mx.toNat
      · have b9 : decide (((l.drop i).length : Int) < 0) = true := decide_eq_true (by omega)
        simp only [rwV, rwE, if_pos hln, if_true]
        (simp (disch := first | decide | omega | (simp only [nx]; first | done | omega)) only [go_sem, hq, b9]; (repeat with_reducible refine aI ?_))
        refine (fail_q 2 hq0).mono ?_
        rintro _ T1 ⟨rfl, hT, hF⟩
        have hT' : T1.ob q = some (.box 43 [.sl own (l.map bD), .v (.int .i64 (i : Int)), .v (.int .i64 2), .v (.int .i64 (i : Int))]) := hT
        (simp (disch := first | decide | omega | (simp only [nx]; first | done | omega)) only [go_sem, hT', b3]; (repeat with_reducible refine aI ?_))
        (repeat' refine And.intro ?_ ?_) <;> first | exact hF | exact ⟨.full, rfl⟩ | rfl
      · have b9 : decide (((l.drop i).length : Int) < 0) = false := decide_eq_false (by omega)
        simp only [rwV, rwE, if_neg hln, if_true]
        rw [List.length_drop] at hln
        (simp (disch := first | decide | omega | (simp only [nx]; first | done | omega)) only [go_sem, hq, b9, b2]; (repeat with_reducible refine aI ?_))
        have ht := take_q (n := mx.toNat) hq0 (by simp only at hi ⊢; omega) hl
        rw [show ((mx.toNat : Nat) : Int) = 0 by omega] at ht
        refine ht.mono ?_
        rintro _ T1 ⟨rfl, hT, hF⟩
        (simp (disch := first | decide | omega | (simp only [nx]; first | done | omega)) only [go_sem]; (repeat with_reducible refine aI ?_))
        exact ⟨⟨.no, rfl⟩, hT, hF⟩
    · have b4 : (c == 0) = false := by simpa using hc
      have b5 : (c != 0) = true := by simpa using hc
      (simp (disch := first | decide | omega | (simp only [nx]; first | done | omega)) only [go_sem, hq, n1, b4, b5]; (repeat with_reducible refine aI ?_))
      simp only [rwV, if_neg hc]
      refine ⟨⟨.full, rfl⟩, ?_, RFr.refl _ _⟩
      rw [nuE_no (x := (i, c, p)) hc]
      rfl
  · have n1 : decide (mx < 0) = false := decide_eq_false hneg
    by_cases hc : c = 0
    · subst hc
      (simp (disch := first | decide | omega | (simp only [nx]; first | done | omega)) only [go_sem, hq, n1, b6]; (repeat with_reducible refine aI ?_))
      refine (left_q hq0 hi).mono ?_
      rintro _ T ⟨rfl, rfl⟩
      by_cases hln : (l.drop i).length < mx.toNat
      · have b9 : decide (((l.drop i).length : Int) < mx) = true := decide_eq_true (by omega)
        simp only [rwV, rwE, if_pos hln, if_true]
        (simp (disch := first | decide | omega | (simp only [nx]; first | done | omega)) only [go_sem, hq, b9]; (repeat with_reducible refine aI ?_))
        refine (fail_q 2 hq0).mono ?_
        rintro _ T1 ⟨rfl, hT, hF⟩
        have hT' : T1.ob q = some (.box 43 [.sl own (l.map bD), .v (.int .i64 (i : Int)), .v (.int .i64 2), .v (.int .i64 (i : Int))]) := hT
        (simp (disch := first | decide | omega | (simp only [nx]; first | done | omega)) only [go_sem, hT', b3]; (repeat with_reducible refine aI ?_))
        (repeat' refine And.intro ?_ ?_) <;> first | exact hF | exact ⟨.full, rfl⟩ | rfl
      · have b9 : decide (((l.drop i).length : Int) < mx) = false := decide_eq_false (by omega)
        simp only [rwV, rwE, if_neg hln, if_true]
        rw [List.length_drop] at hln
        (simp (disch := first | decide | omega | (simp only [nx]; first | done | omega)) only [go_sem, hq, b9, b2]; (repeat with_reducible refine aI ?_))
        have ht := take_q (n := mx.toNat) hq0 (by simp only at hi ⊢; omega) hl
        rw [show ((mx.toNat : Nat) : Int) = mx by omega] at ht
        refine ht.mono ?_
        rintro _ T1 ⟨rfl, hT, hF⟩
        (simp (disch := first | decide | omega | (simp only [nx]; first | done | omega)) only [go_sem]; (repeat with_reducible refine aI ?_))
        exact ⟨⟨.no, rfl⟩, hT, hF⟩
    · have b4 : (c == 0) = false := by simpa using hc
      have b5 : (c != 0) = true := by simpa using hc
      (simp (disch := first | decide | omega | (simp only [nx]; first | done | omega)) only [go_sem, hq, n1, b4, b5]; (repeat with_reducible refine aI ?_))
      simp only [rwV, if_neg hc]
      refine ⟨⟨.full, rfl⟩, ?_, RFr.refl _ _⟩
      rw [nuE_no (x := (i, c, p)) hc]
      rfl
theorem end_q {S : St} {q : Nat} {own : Own} {l : List UInt8} {x : Rst} (hq : S.ob q = some (qB own l x)) (hi : x.1 ≤ l.length) :
    DCalls Tryd.prog 22 [.loc q 0] S fun d T => d = .tup [.v (.int .i64 (if x.2.1 = 0 ∧ x.1 < l.length then 2 else x.2.1)), .v (.int .i64 (if x.2.1 = 0 ∧ x.1 < l.length then (x.1 : Int) else x.2.2))] ∧ T = S := by
  obtain ⟨i, c, p⟩ := x
  have hq0 := hq
  unfold qB at hq
  have hi' : i ≤ l.length := hi
  refine dcalls_inline mixed Tryd.func22 rfl (fun _ _ => by kernel_rfl) (rs := [.tmp 2, .tmp 3]) rfl (by kernel_rfl) (fun hS => ?_)
  by_cases hc : c = 0
  · subst hc
    have b1 : ((0 : Int) == 0) = true := by decide
    (simp (disch := first | decide | omega | (simp only [nx]; first | done | omega)) only [go_sem, hq, b1]; (repeat with_reducible refine aI ?_))
    refine (left_q hq0 hi).mono ?_
    rintro _ T ⟨rfl, rfl⟩
    by_cases hl : i < l.length
    · have b2 : decide ((0 : Int) < ((l.drop i).length : Int)) = true := decide_eq_true (by rw [List.length_drop]; omega)
      rw [if_pos hl, if_pos hl]
      (simp (disch := first | decide | omega | (simp only [nx]; first | done | omega)) only [go_sem, hq, b2]; (repeat with_reducible refine aI ?_))
      refine ddraw_mk 6 (by kernel_rfl) ?_
      (simp (disch := first | decide | omega | (simp only [nx]; first | done | omega)) only [go_sem, hq]; (repeat with_reducible refine aI ?_))
    · have b2 : decide ((0 : Int) < ((l.drop i).length : Int)) = false := decide_eq_false (by rw [List.length_drop]; omega)
      rw [if_neg hl, if_neg hl]
      (simp (disch := first | decide | omega | (simp only [nx]; first | done | omega)) only [go_sem, hq, b2]; (repeat with_reducible refine aI ?_))
      refine ddraw_mk 10 (by kernel_rfl) ?_
      (simp (disch := first | decide | omega | (simp only [nx]; first | done | omega)) only [go_sem, hq]; (repeat with_reducible refine aI ?_))
  · have b1 : (c == 0) = false := by simpa using hc
    rw [if_neg fun h => hc h.1, if_neg fun h => hc h.1]
    (simp (disch := first | decide | omega | (simp only [nx]; first | done | omega)) only [go_sem, hq, b1]; (repeat with_reducible refine aI ?_))
    refine ddraw_mk 10 (by kernel_rfl) ?_
    (simp (disch := first | decide | omega | (simp only [nx]; first | done | omega)) only [go_sem, hq]; (repeat with_reducible refine aI ?_))
end
end Go.Proofs.YtbcabejdchkpmaaDoor

namespace Go.Proofs.YtbcabejdchkpmaaDoor
open Go.RowKit
section
variable {S : St}
def firstD : List D → D
  | [] => .v .nilIface
  | .ifc t u :: _ => .ifc t u
  | _ :: l => firstD l
end
end Go.Proofs.YtbcabejdchkpmaaDoor

namespace Go.Proofs.YtbcabejdchkpmaaDoor
open Go.RowKit
section
variable {S : St} {ps : List Int} {n : Int} {t : TypeId} {u : D}
theorem code01_at (hc : Chain S ps n (.ifc t u)) (hl : ps.length < 1000000) : DAt Tryd.prog 27 [.ifc t u] S (.v (.int .i64 n)) := by
  refine dat_of_dwp (d := .v (.int .i64 n)) mixed Tryd.func27 rfl (fun _ _ => by kernel_rfl) (rs := [.tmp 2]) rfl (by kernel_rfl) trivial (fun hS => ?_)
  (simp (disch := first | decide | omega | (simp only [nx]; first | done | omega)) only [go_sem]; (repeat with_reducible refine aI ?_))
  refine asEr (x0 := .v (.int .i64 0)) (hc.mono fun k cs hq => ?_) ?_ hl fun T t1 t2 t3 t4 => ?_
  · have hkl := hS.lt hq
    show (if k = S.next then _ else _) = _
    rw [if_neg (by omega), hq]
  · show (if S.next = S.next then _ else _) = _
    rw [if_pos rfl]
  (simp (disch := first | decide | omega | (simp only [nx]; first | done | omega)) only [go_sem, t4]; (repeat with_reducible refine aI ?_))
  have hsub : S.Sub T := ⟨by have : S.next + 1 ≤ T.next := t1; omega, fun j o ho => t3 j o (by have := hS.lt ho; omega) (by have := hS.lt ho; show (if j = S.next then _ else _) = _; rw [if_neg (by omega), ho])⟩
  refine ⟨?_, (by (repeat' first | assumption | exact St.Sub.refl _ | exact RowOk.sub (by assumption) (by assumption) | refine St.Sub.trans ?_ (RowOk.sub (by assumption) (by assumption)) | refine St.Sub.add ?_ ?_ _ | refine St.Sub.set ?_ ?_ ?_ _ | refine St.Sub.keep ?_ ?_ | refine St.WF.leave ?_ _ | refine St.WF.add ?_ _ | refine St.WF.set ?_ ?_ _ | refine St.WF.grow ?_ _ _ _ | refine St.WF.keep ?_ ?_ | (first | omega | (simp only [RowOk.lo, nx]; first | done | omega))))⟩
  rfl
end
end Go.Proofs.YtbcabejdchkpmaaDoor
