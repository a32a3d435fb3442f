/- DeltaLeads answers true for any schema and any two values, and leaves its arguments as they were. Conditions: none but the statement's own. -/
import Derived.Test.YtjjhjhjphhpeiaaGreatDoorD9
import Derived.LaidEql
import Derived.Stop.Asserts
import Derived.RowKitTokens
import Derived.Test.YtjjhjhjphhpeiaaGreatDoorCards
import Derived.Test.YtjjhjhjphhpeiaaGreatDoorTie
import Derived.SevenTiedAt
import Derived.RowKit
set_option linter.unusedVariables false
set_option linter.unusedSimpArgs false
namespace Go.Proofs.YtjjhjhjphhpeiaaGreatDoor
open Go.RowKit Go.Extern.Stop Go.Stop Go.Extern
set_option linter.unusedSimpArgs false
set_option linter.unusedVariables false
/-! The value that a tree without memory stands for. -/
mutual
def D.val : D → Option Value
  | .v x => some x
  | .ifc t d => (D.val d).map (Value.iface t ·)
  | .agg cs => (valL cs).bind fun vs => bif vs.all (·.oneCell') then some (.agg vs.toArray) else none
  | _ => none
def valL : List D → Option (List Value)
  | [] => some []
  | d :: l => (D.val d).bind fun x => (valL l).map (x :: ·)
end
section
variable {P : Program} {w : World} {η : Names} {X : Nat → Nat → Prop}
mutual
theorem rep_val_iff : ∀ {d : D} {x : Value}, D.val d = some x → ∀ {y : Value}, Rep P w η X d y ↔ y = x
  | .v x, _, h, y => by simp only [D.val, Option.some.injEq] at h; subst h; simp only [Rep]
  | .ifc t d, _, h, y => by
    simp only [D.val, Option.map_eq_some_iff] at h
    obtain ⟨z, h1, rfl⟩ := h
    simp only [Rep]
    constructor
    · rintro ⟨u, rfl, hu⟩
      rw [(rep_val_iff h1).1 hu]
    · rintro rfl
      exact ⟨z, rfl, (rep_val_iff h1).2 rfl⟩
  | .agg cs, _, h, y => by
    simp only [D.val, Option.bind_eq_some_iff] at h
    obtain ⟨vs, h1, h2⟩ := h
    cases hb : vs.all (·.oneCell') with
    | false => rw [hb] at h2; cases h2
    | true =>
      rw [hb] at h2
      simp only [cond_true, Option.some.injEq] at h2
      subst h2
      simp only [Rep]
      constructor
      · rintro ⟨us, rfl, hu, _⟩
        rw [(rep_valL_iff h1).1 hu]
      · rintro rfl
        exact ⟨vs, rfl, (rep_valL_iff h1).2 rfl, fun u hu => List.all_eq_true.1 hb u hu⟩
  | .tup _, _, h, _ => by simp [D.val] at h
  | .fn _ _ _, _, h, _ => by simp [D.val] at h
  | .loc _ _, _, h, _ => by simp [D.val] at h
  | .rd _ _, _, h, _ => by simp [D.val] at h
  | .sl _ _, _, h, _ => by simp [D.val] at h
  | .win _ _ _ _, _, h, _ => by simp [D.val] at h
theorem rep_valL_iff : ∀ {l : List D} {vs : List Value}, valL l = some vs → ∀ {us : List Value}, RepL P w η X l us ↔ us = vs
  | [], _, h, us => by simp only [valL, Option.some.injEq] at h; subst h; simp only [RepL]
  | d :: l, _, h, us => by
    simp only [valL, Option.bind_eq_some_iff, Option.map_eq_some_iff] at h
    obtain ⟨x, h1, xs, h2, rfl⟩ := h
    simp only [RepL]
    constructor
    · rintro ⟨y, ys, rfl, hy, hys⟩
      rw [(rep_val_iff h1).1 hy, (rep_valL_iff h2).1 hys]
    · rintro rfl
      exact ⟨x, xs, rfl, (rep_val_iff h1).2 rfl, (rep_valL_iff h2).2 rfl⟩
end
end
section
variable {P : Program} {S : St} {K : D → St → Prop}
/-- A call of an entry of the library's. -/
theorem dext {g : FuncId} {fn : Func} {e : Array Value → Sem Value} (hf : P.funcs[g]? = some fn) (hname : (fn.name == "runtime.NumGoroutine") = false) (hb : fn.body.isNone = true) (hn : Extern.findNext fn = none) (hx : Extern.find fn = some e) {args : List D}
    (h : ∀ base η w vs, Mem P base S η w → RepL P w η (Fix P S η) args vs → ∃ d S' η' v w', (e vs.toArray).run P w = .ok v w' ∧ K d S' ∧ Rep P w' η' (Fix P S' η') d v ∧ Goes P base S η w S' η' w') : DCalls P g args S K := fun base η w vs hM hr => by
  obtain ⟨d, S', η', v, w', h1, h2, h3, h4⟩ := h base η w vs hM hr
  refine .inr ⟨d, S', η', v, w', ?_, h2, h3, h4⟩
  rw [run_callFunc_extern hf hname hb hn hx, h1]
  rfl
/-- One that looks at no memory. -/
theorem dext_pure {g : FuncId} {fn : Func} {e : Array Value → Sem Value} (hf : P.funcs[g]? = some fn) (hname : (fn.name == "runtime.NumGoroutine") = false) (hb : fn.body.isNone = true) (hn : Extern.findNext fn = none) (hx : Extern.find fn = some e) {args : List D} {us : List Value} {r : Value} {d : D}
    (hv : valL args = some us) (h : ∀ w, (e us.toArray).run P w = .ok r w) (hd : D.val d = some r) (hk : K d S) : DCalls P g args S K :=
  dext hf hname hb hn hx fun base η w vs hM hr => by
    rw [(rep_valL_iff hv).1 hr]
    exact ⟨d, S, η, r, w, h w, hk, (rep_val_iff hd).2 rfl, Goes.refl hM⟩
/-- A method of a value without memory. -/
theorem dmeth_pure {t : TypeId} {d d' : D} {m : String} {g : FuncId} {x r : Value} (hd : D.val d = some x) (hd' : D.val d' = some r) (h : ∀ w, (method (P.types.size + Made.depth) t x m).run P w = .ok (g, r) w) : DMeth P t d m g d' := fun w η X v hr => by
  rw [(rep_val_iff hd).1 hr]
  exact ⟨r, h w, (rep_val_iff hd').2 rfl⟩
end
/-- A type, as a value; reflectlite's handle of it. -/
abbrev tyV (t : TypeId) : Value := .pointer (some ⟨1, t, none⟩)
abbrev tyD (t : TypeId) : D := .agg [.v (tyV t)]
abbrev rtD (t : TypeId) : D := .ifc 152 (tyD t)
theorem rlm (z : Sem Value) (f : TypeId → Addr → Nat → Nat → Sem Value) (v : Value) :
    ReflectliteValue.method z f #[v] = (do match ← ReflectliteValue.parts v with | none => z | some (t, a, fl) => f t a fl (fl % 32)) := rfl
theorem rls (v x : Value) : ReflectliteValue.set #[v, x] = (do
    let (some (dst, a, fl), some (src, b, _)) := (← ReflectliteValue.parts v, ← ReflectliteValue.parts x)
      | unsupported (.noEntry "extern/(internal/reflectlite.Value).Set.zeroValue")
    if fl / ReflectliteValue.flagAddr % 2 == 0 then unsupported (.noEntry "extern/(internal/reflectlite.Value).Set.unaddressable")
    let val ← loadVar src b
    if ← Rtype.directlyAssignable dst src then storeVar dst a val
    else if ← Rtype.implements dst src then
      if (← Rtype.kind src) == 20 then
        match val with
        | .nilIface => unsupported (.noEntry "extern/reflectlite: a nil value of one interface type handed on as a value of another")
        | _ => storeVar dst a val
      else storeVar dst a (.iface src val)
    else panicString ("reflectlite.Set: value of type " ++ (← Rtype.spelt src) ++ " is not assignable to type " ++ (← Rtype.spelt dst))
    pure (.tuple #[])) := rfl

section
variable {S : St} {K : D → St → Prop}
theorem unpackPEr (a : Addr) (w : World) : (ReflectliteValue.unpack (.iface 69 (.pointer (some a)))).run Tryz.prog w = .ok (.agg #[tyV 69, .pointer (some ⟨w.heap.size, 0, none⟩), .int .u64 150]) (w.alloc (.cells #[.pointer (some a)] 69)) := by kernel_rfl
theorem rlValueOfPEr {k off : Nat} (h : K (.agg [.v (tyV 69), .loc S.next 0, .v (.int .u64 150)]) (S.add (.box 69 [.loc k off]))) : DCalls Tryz.prog 69 [.ifc 69 (.loc k off)] S K :=
  dext (e := fun args => ReflectliteValue.unpack (args.getD 0 (.tuple #[]))) Tryz.func69 (by kernel_rfl) (by kernel_rfl) (by kernel_rfl) (by kernel_rfl) fun base η w vs hM hr => by
    simp only [RepL, Rep] at hr
    obtain ⟨_, _, rfl, ⟨_, rfl, b, hb, rfl⟩, rfl⟩ := hr
    have G := goes_name hM (.box 69 [.loc k off]) #[.pointer (some ⟨b, off, none⟩)] 69 (.inl ⟨_, [.pointer (some ⟨b, off, none⟩)], rfl, rfl, by simp only [RepL, Rep]; exact ⟨_, _, rfl, ⟨b, hb, rfl⟩, rfl⟩, fun x hx => by rw [List.mem_singleton] at hx; subst hx; rfl⟩)
    refine ⟨_, _, _, _, _, unpackPEr _ w, h, ?_, G⟩
    simp only [Rep, RepL]
    exact ⟨[_, _, _], rfl, ⟨_, _, rfl, rfl, _, _, rfl, ⟨w.heap.size, by simp only [Names.add, ↓reduceIte], rfl⟩, _, _, rfl, rfl, rfl⟩, fun x hx => by simp only [List.mem_cons, List.not_mem_nil, or_false] at hx; rcases hx with rfl | rfl | rfl <;> rfl⟩
theorem typePEr (a : Addr) (w : World) : (ReflectliteValue.methodAny (ReflectliteValue.valueError "reflectlite.Value.Type" 0) (fun t _ _ _ => ReflectliteType.toType t) #[.agg #[tyV 69, .pointer (some a), .int .u64 150]]).run Tryz.prog w = .ok (.iface 152 (.agg #[tyV 69])) w := by kernel_rfl
theorem rlTypePEr {k off : Nat} (h : K (rtD 69) S) : DCalls Tryz.prog 70 [.agg [.v (tyV 69), .loc k off, .v (.int .u64 150)]] S K :=
  dext (e := ReflectliteValue.methodAny (ReflectliteValue.valueError "reflectlite.Value.Type" 0) (fun t _ _ _ => ReflectliteType.toType t)) Tryz.func70 (by kernel_rfl) (by kernel_rfl) (by kernel_rfl) (by kernel_rfl) fun base η w vs hM hr => by
    simp only [RepL, Rep] at hr
    obtain ⟨_, _, rfl, ⟨_, rfl, ⟨_, _, rfl, rfl, _, _, rfl, ⟨b, hb, rfl⟩, _, _, rfl, rfl, rfl⟩, _⟩, rfl⟩ := hr
    exact ⟨_, S, η, _, w, typePEr _ w, h, (rep_val_iff (d := rtD 69) rfl).2 rfl, Goes.refl hM⟩
theorem partsPEr (a : Addr) (w : World) : (ReflectliteValue.parts (.agg #[tyV 69, .pointer (some a), .int .u64 150])).run Tryz.prog w = .ok (some (69, a, 150)) w := by kernel_rfl
theorem rlIsNilPEr {b k off : Nat} (hb : S.ob b = some (.box 69 [.loc k off])) (h : K (.v (.bool false)) S) : DCalls Tryz.prog 71 [.agg [.v (tyV 69), .loc b 0, .v (.int .u64 150)]] S K :=
  dext (e := ReflectliteValue.method (ReflectliteValue.valueError "reflectlite.Value.IsNil" 0) ReflectliteValue.isNil) Tryz.func71 (by kernel_rfl) (by kernel_rfl) (by kernel_rfl) (by kernel_rfl) fun base η w vs hM hr => by
    simp only [RepL, Rep] at hr
    obtain ⟨_, _, rfl, ⟨_, rfl, ⟨_, _, rfl, rfl, _, _, rfl, ⟨q, hq, rfl⟩, _, _, rfl, rfl, rfl⟩, _⟩, rfl⟩ := hr
    obtain ⟨us, g1, g2, g3⟩ := hM.box b _ _ q hb hq
    simp only [RepL, Rep] at g2
    obtain ⟨_, _, rfl, ⟨p, hp, rfl⟩, rfl⟩ := g2
    have ha : w.cell? ⟨q, 0, none⟩ = some (.pointer (some ⟨p, off, none⟩)) := by simp [World.cell?, g1]
    refine ⟨_, S, η, .bool false, w, ?_, h, by simp only [Rep], Goes.refl hM⟩
    rw [rlm]
    simp only [Sem.run_bind, partsPEr, Result.andThen]
    simp [ReflectliteValue.isNil, loadVar, isAgg, underlying, Tryz.underlying69, ha, Result.andThen]
theorem elemOfPEr (w : World) : (Rtype.elem? 69).run Tryz.prog w = .ok (some 62) w := by kernel_rfl
theorem mkPEr (p : Addr) (w : World) : (ReflectliteValue.mk 62 p ReflectliteValue.flagAddr).run Tryz.prog w = .ok (.agg #[tyV 62, .pointer (some p), .int .u64 386]) w := by kernel_rfl
theorem rlElemPEr {b k off : Nat} (hb : S.ob b = some (.box 69 [.loc k off])) (h : K (.agg [.v (tyV 62), .loc k off, .v (.int .u64 386)]) S) : DCalls Tryz.prog 114 [.agg [.v (tyV 69), .loc b 0, .v (.int .u64 150)]] S K :=
  dext (e := ReflectliteValue.method (ReflectliteValue.valueError "reflectlite.Value.Elem" 0) ReflectliteValue.elem) Tryz.func114 (by kernel_rfl) (by kernel_rfl) (by kernel_rfl) (by kernel_rfl) fun base η w vs hM hr => by
    simp only [RepL, Rep] at hr
    obtain ⟨_, _, rfl, ⟨_, rfl, ⟨_, _, rfl, rfl, _, _, rfl, ⟨q, hq, rfl⟩, _, _, rfl, rfl, rfl⟩, _⟩, rfl⟩ := hr
    obtain ⟨us, g1, g2, g3⟩ := hM.box b _ _ q hb hq
    simp only [RepL, Rep] at g2
    obtain ⟨_, _, rfl, ⟨p, hp, rfl⟩, rfl⟩ := g2
    have ha : w.cell? ⟨q, 0, none⟩ = some (.pointer (some ⟨p, off, none⟩)) := by simp [World.cell?, g1]
    refine ⟨_, S, η, .agg #[tyV 62, .pointer (some ⟨p, off, none⟩), .int .u64 386], w, ?_, h, ?_, Goes.refl hM⟩
    · rw [rlm]
      simp only [Sem.run_bind, partsPEr, Result.andThen]
      simp [ReflectliteValue.elem, loadVar, isAgg, underlying, Tryz.underlying69, ha, Result.andThen, elemOfPEr, mkPEr]
    · simp only [Rep, RepL]
      exact ⟨[_, _, _], rfl, ⟨_, _, rfl, rfl, _, _, rfl, ⟨p, hp, rfl⟩, _, _, rfl, rfl, rfl⟩, fun x hx => by simp only [List.mem_cons, List.not_mem_nil, or_false] at hx; rcases hx with rfl | rfl | rfl <;> rfl⟩
theorem methKindPEr : DMeth Tryz.prog 152 (tyD 69) "Kind" 197 (.v (tyV 69)) := dmeth_pure rfl rfl fun w => by kernel_rfl
theorem methKindEr : DMeth Tryz.prog 152 (tyD 62) "Kind" 197 (.v (tyV 62)) := dmeth_pure rfl rfl fun w => by kernel_rfl
theorem rlKindPEr (h : K (.v (.int .u8 22)) S) : DCalls Tryz.prog 197 [.v (tyV 69)] S K :=
  dext_pure (e := ReflectliteType.abiMethod fun t => do pure (.int .u8 (← Rtype.kind t))) Tryz.func197 (by kernel_rfl) (by kernel_rfl) (by kernel_rfl) (by kernel_rfl) (r := .int .u8 22) rfl (fun w => by kernel_rfl) rfl h
theorem rlKindEr (h : K (.v (.int .u8 2)) S) : DCalls Tryz.prog 197 [.v (tyV 62)] S K :=
  dext_pure (e := ReflectliteType.abiMethod fun t => do pure (.int .u8 (← Rtype.kind t))) Tryz.func197 (by kernel_rfl) (by kernel_rfl) (by kernel_rfl) (by kernel_rfl) (r := .int .u8 2) rfl (fun w => by kernel_rfl) rfl h
theorem methElemPEr : DMeth Tryz.prog 152 (tyD 69) "Elem" 208 (tyD 69) := dmeth_pure rfl rfl fun w => by kernel_rfl
theorem rlTElemPEr (h : K (rtD 62) S) : DCalls Tryz.prog 208 [tyD 69] S K :=
  dext_pure (e := ReflectliteType.method ReflectliteType.elem) Tryz.func208 (by kernel_rfl) (by kernel_rfl) (by kernel_rfl) (by kernel_rfl) (r := .iface 152 (.agg #[tyV 62])) rfl (fun w => by kernel_rfl) rfl h
theorem methImplEr : DMeth Tryz.prog 152 (tyD 62) "Implements" 209 (tyD 62) := dmeth_pure rfl rfl fun w => by kernel_rfl
theorem rlImplEr (h : K (.v (.bool true)) S) : DCalls Tryz.prog 209 [tyD 62, rtD 35] S K :=
  dext_pure (e := ReflectliteType.relation "Implements" ReflectliteType.implements_) Tryz.func209 (by kernel_rfl) (by kernel_rfl) (by kernel_rfl) (by kernel_rfl) (r := .bool true) rfl (fun w => by kernel_rfl) rfl h
theorem methAsgEr : DMeth Tryz.prog 152 (tyD 62) "AssignableTo" 206 (tyD 62) := dmeth_pure rfl rfl fun w => by kernel_rfl
theorem rlAsgEr (h : K (.v (.bool true)) S) : DCalls Tryz.prog 206 [tyD 62, rtD 62] S K :=
  dext_pure (e := ReflectliteType.relation "AssignableTo" ReflectliteType.assignableTo) Tryz.func206 (by kernel_rfl) (by kernel_rfl) (by kernel_rfl) (by kernel_rfl) (r := .bool true) rfl (fun w => by kernel_rfl) rfl h
theorem typeOfEr (x : Value) (w : World) : (ReflectliteType.typeOf #[.iface 62 x]).run Tryz.prog w = .ok (.iface 152 (.agg #[tyV 62])) w := by kernel_rfl
theorem rlTypeOfEr {d : D} (h : K (rtD 62) S) : DCalls Tryz.prog 113 [.ifc 62 d] S K :=
  dext (e := ReflectliteType.typeOf) Tryz.func113 (by kernel_rfl) (by kernel_rfl) (by kernel_rfl) (by kernel_rfl) fun base η w vs hM hr => by
    simp only [RepL, Rep] at hr
    obtain ⟨_, _, rfl, ⟨x, rfl, _⟩, rfl⟩ := hr
    exact ⟨_, S, η, _, w, typeOfEr x w, h, (rep_val_iff (d := rtD 62) rfl).2 rfl, Goes.refl hM⟩
end

end Go.Proofs.YtjjhjhjphhpeiaaGreatDoor

namespace Go.Proofs.YtjjhjhjphhpeiaaGreatDoor
open Go.RowKit Go.Extern.Stop Go.Stop Go.Extern
set_option linter.unusedSimpArgs false
set_option linter.unusedVariables false
/-- An error's number, as a tree; an error in a place. -/
abbrev erD (n : Int) : D := .ifc 62 (.v (.int .i64 n))
section
variable {P : Program} {S : St} {K : D → St → Prop}
end
section
variable {S : St} {K : D → St → Prop} {u : D}
end
/-- What ValueOf tells of a number, of an error in a place; and Set. -/
theorem unpackEr (n : Int) (w : World) : (ReflectliteValue.unpack (.iface 62 (.int .i64 n))).run Tryz.prog w = .ok (.agg #[tyV 62, .pointer (some ⟨w.heap.size, 0, none⟩), .int .u64 130]) (w.alloc (.cells #[.int .i64 n] 62)) := by kernel_rfl
section
variable {S : St} {K : D → St → Prop}
theorem rlValueOfEr {n : Int} (h : K (.agg [.v (tyV 62), .loc S.next 0, .v (.int .u64 130)]) (S.add (.box 62 [.v (.int .i64 n)]))) : DCalls Tryz.prog 69 [erD n] S K :=
  dext (e := fun args => ReflectliteValue.unpack (args.getD 0 (.tuple #[]))) Tryz.func69 (by kernel_rfl) (by kernel_rfl) (by kernel_rfl) (by kernel_rfl) fun base η w vs hM hr => by
    simp only [RepL, Rep] at hr
    obtain ⟨_, _, rfl, ⟨_, rfl, rfl⟩, rfl⟩ := hr
    have G := goes_name hM (.box 62 [.v (.int .i64 n)]) #[.int .i64 n] 62 (.inl ⟨_, [.int .i64 n], rfl, rfl, by simp only [RepL, Rep]; exact ⟨_, _, rfl, rfl, rfl⟩, fun x hx => by rw [List.mem_singleton] at hx; subst hx; rfl⟩)
    refine ⟨_, _, _, _, _, unpackEr _ w, h, ?_, G⟩
    simp only [Rep, RepL]
    exact ⟨[_, _, _], rfl, ⟨_, _, rfl, rfl, _, _, rfl, ⟨w.heap.size, by simp only [Names.add, ↓reduceIte], rfl⟩, _, _, rfl, rfl, rfl⟩, fun x hx => by simp only [List.mem_cons, List.not_mem_nil, or_false] at hx; rcases hx with rfl | rfl | rfl <;> rfl⟩
end

theorem partsEra (a : Addr) (w : World) : (ReflectliteValue.parts (.agg #[tyV 62, .pointer (some a), .int .u64 386])).run Tryz.prog w = .ok (some (62, a, 386)) w := by kernel_rfl
theorem partsEr (a : Addr) (w : World) : (ReflectliteValue.parts (.agg #[tyV 62, .pointer (some a), .int .u64 130])).run Tryz.prog w = .ok (some (62, a, 130)) w := by kernel_rfl
theorem directEr (w : World) : (Rtype.directlyAssignable 62 62).run Tryz.prog w = .ok true w := by kernel_rfl
theorem sizeEr (w : World) : (sizeOf 62).run Tryz.prog w = .ok 1 w := by kernel_rfl
theorem setEr {b a : Nat} {x : Value} {n : Int} {W : World} (hb : W.heap[b]? = some (.cells [x].toArray 62 (0, 0))) (ha : W.cell? ⟨a, 0, none⟩ = some (.int .i64 n)) :
    (ReflectliteValue.set #[.agg #[tyV 62, .pointer (some ⟨b, 0, none⟩), .int .u64 386], .agg #[tyV 62, .pointer (some ⟨a, 0, none⟩), .int .u64 130]]).run Tryz.prog W = .ok (.tuple #[]) (W.setRow b [.int .i64 n].toArray) := by
  have q := run_storeCells_at Tryz.prog b 0 62 [.int .i64 n] 0 [x].toArray W hb (by simp) (by simp [Value.oneCell'])
  rw [rls]
  simp only [Sem.run_bind, partsEra, partsEr, Result.andThen]
  simp [ReflectliteValue.flagAddr, loadVar, isAgg, underlying, Tryz.underlying62, ha, Result.andThen, directEr, storeVar, sizeEr, Value.cells] at q ⊢
  simp [q]
theorem rlSetEr {S : St} {K : D → St → Prop} {a b : Nat} {d0 : D} {n : Int} (hb : S.ob b = some (.box 62 [d0])) (ha : S.ob a = some (.box 62 [.v (.int .i64 n)])) (h : K (.tup []) (S.set b (.box 62 [.v (.int .i64 n)]))) :
    DCalls Tryz.prog 115 [.agg [.v (tyV 62), .loc b 0, .v (.int .u64 386)], .agg [.v (tyV 62), .loc a 0, .v (.int .u64 130)]] S K :=
  dext (e := ReflectliteValue.set) Tryz.func115 (by kernel_rfl) (by kernel_rfl) (by kernel_rfl) (by kernel_rfl) fun base η w vs hM hr => by
    simp only [RepL, Rep] at hr
    obtain ⟨_, _, rfl, ⟨_, rfl, ⟨_, _, rfl, rfl, _, _, rfl, ⟨q, hq, rfl⟩, _, _, rfl, rfl, rfl⟩, _⟩, _, _, rfl, ⟨_, rfl, ⟨_, _, rfl, rfl, _, _, rfl, ⟨p, hp, rfl⟩, _, _, rfl, rfl, rfl⟩, _⟩, rfl⟩ := hr
    obtain ⟨us, g1, g2, g3⟩ := hM.box b _ _ q hb hq
    obtain ⟨us', k1, k2, k3⟩ := hM.box a _ _ p ha hp
    simp only [RepL] at g2
    obtain ⟨x, _, rfl, hx, rfl⟩ := g2
    simp only [RepL] at k2
    obtain ⟨y, _, rfl, hy, rfl⟩ := k2
    have hy0 := hy
    simp only [Rep] at hy
    subst hy
    have hc : w.cell? ⟨p, 0, none⟩ = some (.int .i64 n) := by simp [World.cell?, k1]
    have G := goes_set hM (cs' := [.v (.int .i64 n)]) (vs' := [_]) hb hq rfl (by simp only [RepL]; exact ⟨_, _, rfl, hy0, rfl⟩) k3
    exact ⟨_, _, _, _, _, setEr g1 hc, h, by simp only [Rep, RepL]; exact ⟨[], rfl, rfl⟩, G⟩

end Go.Proofs.YtjjhjhjphhpeiaaGreatDoor

namespace Go.Proofs.YtjjhjhjphhpeiaaGreatDoor
open Go.RowKit
set_option linter.unusedSimpArgs false
set_option linter.unusedVariables false
theorem bnil_eq0 (k : Nat) : dbin Tryz.prog .eql 35 (.tmp k) (.const .nilIface) (.v .nilIface) (.v .nilIface) = some (True, .v (.bool true)) := by kernel_rfl
set_option maxRecDepth 200000 in
set_option maxHeartbeats 4000000 in
theorem as0Walk {S : St} {n : Int} {x0 : D} {kb kc : Nat} {K : D → St → Prop} (hk : S.ob kc = some (.box 62 [x0])) (hb : S.ob kb = some (.box 69 [.loc kc 0]))
    (h : ∀ T, S.next ≤ T.next → T.WF → (∀ j o, j ≠ kc → S.ob j = some o → T.ob j = some o) → T.ob kc = some (.box 62 [.v (.int .i64 n)]) → K (.v (.bool true)) T) :
    DCalls Tryz.prog 72 [erD n, .ifc 69 (.loc kc 0), .agg [.v (tyV 69), .loc kb 0, .v (.int .u64 150)], rtD 62] S K := by
  refine dcalls_inline mixed Tryz.func72 rfl (fun _ _ => by kernel_rfl) (rs := [.tmp 8]) rfl (by kernel_rfl) (fun hS => ?_)
  (simp (disch := first | decide | omega | (simp only [nx]; first | done | omega)) only [go_sem, Nat.reduceMul]; (repeat (with_reducible refine And.intro (by first | omega | assumption | rfl) ?_)))
  (refine dloop_st (fun t => List.contains [0, 8, 9, 10, 11, 12, 14, 15, 16, 17, 18, 19, 20, 21, 22, 23, 24, 25, 26, 27, 28, 29, 30, 31, 32, 33, 34, 35, 36, 37, 38, 39, 40, 41, 42, 43, 44, 45, 46, 47, 48, 49, 50, 51, 52, 53, 54, 55, 56, 57, 58, 59, 60, 61] t) (by kernel_rfl) ?_ (0) (fun i f => i ≤ 0 ∧ f 0 = erD n ∧ f 8 = .v (.bool false)) ?_ ?_; (exact (by (repeat' first | assumption | refine St.WF.leave ?_ _ | refine St.WF.add ?_ _ | refine St.WF.set ?_ ?_ _ | refine St.WF.grow ?_ _ _ _ | refine St.WF.keep ?_ ?_ | (first | omega | (simp only [RowOk.lo, nx]; first | done | omega))))); (exact ⟨(by omega), (by (first | (simp (disch := first | decide | omega | (simp only [nx]; first | done | omega)) only [go_sem, Nat.reduceMul]; first | done | rfl) | rfl)), (by (first | (simp (disch := first | decide | omega | (simp only [nx]; first | done | omega)) only [go_sem, Nat.reduceMul]; first | done | rfl) | rfl))⟩); intro i g tn hn hT hg hI; obtain ⟨le, q0, q8⟩ := hI; have q1 := hg 1 rfl; have q3 := hg 3 rfl; have q6 := hg 6 rfl; simp (disch := first | decide | omega | (simp only [nx]; first | done | omega)) only [go_sem, Nat.reduceMul] at q1 q3 q6; clear hg; have hn' := hn; try simp only [add_next, set_next, grow_next, leave_next, drop_next] at hn')
  have hB : ∀ j o, S.ob j = some o → (St.mk tn (S.add (.box 105 [.v (tyV 69), .loc kb 0, .v (.int .u64 150)])).ob).ob j = some o := fun j o ho => by
    have hkl := hS.lt ho
    show (if j = S.next then _ else S.ob j) = _
    rw [if_neg (by omega), ho]
  (simp (disch := first | decide | omega | (simp only [nx]; first | done | omega)) only [go_sem, Nat.reduceMul, q0, q1, q3, q6]; (repeat (with_reducible refine And.intro (by first | omega | assumption | rfl) ?_)))
  refine rlTypeOfEr ?_
  (simp (disch := first | decide | omega | (simp only [nx]; first | done | omega)) only [go_sem, Nat.reduceMul, q0, q1, q3, q6]; (repeat (with_reducible refine And.intro (by first | omega | assumption | rfl) ?_)))
  refine dinvoke_mk methAsgEr (rlAsgEr ?_)
  (simp (disch := first | decide | omega | (simp only [nx]; first | done | omega)) only [go_sem, Nat.reduceMul, q0, q1, q3, q6]; (repeat (with_reducible refine And.intro (by first | omega | assumption | rfl) ?_)))
  refine rlElemPEr (hB _ _ hb) ?_
  (simp (disch := first | decide | omega | (simp only [nx]; first | done | omega)) only [go_sem, Nat.reduceMul, q0, q1, q3, q6]; (repeat (with_reducible refine And.intro (by first | omega | assumption | rfl) ?_)))
  refine rlValueOfEr ?_
  (simp (disch := first | decide | omega | (simp only [nx]; first | done | omega)) only [go_sem, Nat.reduceMul, q0, q1, q3, q6]; (repeat (with_reducible refine And.intro (by first | omega | assumption | rfl) ?_)))
  have hkc := hS.lt hk
  have hkn : kc ≠ tn := by omega
  refine rlSetEr (d0 := x0) (n := n) ?_ ?_ ?_
  · show (if kc = tn then _ else _) = _
    rw [if_neg hkn]; exact hB _ _ hk
  · show (if tn = tn then _ else _) = _
    rw [if_pos rfl]
  (simp (disch := first | decide | omega | (simp only [nx]; first | done | omega)) only [go_sem, Nat.reduceMul, q0, q1, q3, q6]; (repeat (with_reducible refine And.intro (by first | omega | assumption | rfl) ?_)))
  refine h _ ?_ ?_ (fun j o hj ho => ?_) ?_
  · show S.next ≤ tn + 1
    omega
  · exact (by (repeat' first | assumption | refine St.WF.leave ?_ _ | refine St.WF.add ?_ _ | refine St.WF.set ?_ ?_ _ | refine St.WF.grow ?_ _ _ _ | refine St.WF.keep ?_ ?_ | (first | omega | (simp only [RowOk.lo, nx]; first | done | omega))))
  · show (if j = kc then _ else if j = tn then _ else _) = _
    have := hS.lt ho
    rw [if_neg hj, if_neg (by omega)]; exact hB _ _ ho
  · show (if kc = kc then _ else _) = _
    rw [if_pos rfl]
set_option maxRecDepth 200000 in
set_option maxHeartbeats 4000000 in
theorem as0 {S : St} {n : Int} {x0 : D} {kc : Nat} {K : D → St → Prop} (hk : S.ob kc = some (.box 62 [x0]))
    (h : ∀ T, S.next ≤ T.next → T.WF → (∀ j o, j ≠ kc → S.ob j = some o → T.ob j = some o) → T.ob kc = some (.box 62 [.v (.int .i64 n)]) → K (.v (.bool true)) T) :
    DCalls Tryz.prog 35 [erD n, .ifc 69 (.loc kc 0)] S K := by
  refine dcalls_inline mixed Tryz.func35 rfl (fun _ _ => by kernel_rfl) (rs := [.tmp 4]) rfl (by kernel_rfl) (fun hS => ?_)
  unfold erD
  (simp (disch := first | decide | omega | (simp only [nx]; first | done | omega)) only [go_sem, Nat.reduceMul]; (repeat (with_reducible refine And.intro (by first | omega | assumption | rfl) ?_)))
  refine rlValueOfPEr ?_
  (simp (disch := first | decide | omega | (simp only [nx]; first | done | omega)) only [go_sem, Nat.reduceMul]; (repeat (with_reducible refine And.intro (by first | omega | assumption | rfl) ?_)))
  refine rlTypePEr ?_
  (simp (disch := first | decide | omega | (simp only [nx]; first | done | omega)) only [go_sem, Nat.reduceMul]; (repeat (with_reducible refine And.intro (by first | omega | assumption | rfl) ?_)))
  have k22 : ((22 : Int) != 22) = false := by decide
  have k20 : ((2 : Int) != 20) = true := by decide
  refine dinvoke_mk methKindPEr (rlKindPEr ?_)
  (simp (disch := first | decide | omega | (simp only [nx]; first | done | omega)) only [go_sem, Nat.reduceMul, k22]; (repeat (with_reducible refine And.intro (by first | omega | assumption | rfl) ?_)))
  refine rlIsNilPEr (k := kc) (off := 0) ?_ ?_
  · (first | (simp (disch := first | decide | omega | (simp only [nx]; first | done | omega)) only [go_sem, Nat.reduceMul]; first | done | rfl) | rfl)
  (simp (disch := first | decide | omega | (simp only [nx]; first | done | omega)) only [go_sem, Nat.reduceMul, k22]; (repeat (with_reducible refine And.intro (by first | omega | assumption | rfl) ?_)))
  refine dinvoke_mk methElemPEr (rlTElemPEr ?_)
  (simp (disch := first | decide | omega | (simp only [nx]; first | done | omega)) only [go_sem, Nat.reduceMul]; (repeat (with_reducible refine And.intro (by first | omega | assumption | rfl) ?_)))
  refine dinvoke_mk methKindEr (rlKindEr ?_)
  (simp (disch := first | decide | omega | (simp only [nx]; first | done | omega)) only [go_sem, Nat.reduceMul, k20]; (repeat (with_reducible refine And.intro (by first | omega | assumption | rfl) ?_)))
  refine dinvoke_mk methImplEr (rlImplEr ?_)
  (simp (disch := first | decide | omega | (simp only [nx]; first | done | omega)) only [go_sem, Nat.reduceMul]; (repeat (with_reducible refine And.intro (by first | omega | assumption | rfl) ?_)))
  have hkc := hS.lt hk
  have hB : ∀ j o, S.ob j = some o → (((S.add (.box 69 [.loc kc 0])).add (.box 105 [.v (.pointer none), .v (.pointer none), .v (.int .u64 0)])).set (S.next + 1) (.box 105 [.v (tyV 69), .loc S.next 0, .v (.int .u64 150)])).ob j = some o := fun j o ho => by
    have hkl := hS.lt ho
    show (if j = S.next + 1 then _ else if j = S.next + 1 then _ else if j = S.next then _ else S.ob j) = _
    rw [if_neg (by omega), if_neg (by omega), if_neg (by omega), ho]
  refine as0Walk (hB _ _ hk) (kb := S.next) ?_ fun T t1 t2 t3 t4 => ?_
  · (first | (simp (disch := first | decide | omega | (simp only [nx]; first | done | omega)) only [go_sem, Nat.reduceMul]; first | done | rfl) | rfl)
  (simp (disch := first | decide | omega | (simp only [nx]; first | done | omega)) only [go_sem, Nat.reduceMul]; (repeat (with_reducible refine And.intro (by first | omega | assumption | rfl) ?_)))
  exact h T (by have : S.next + 1 + 1 ≤ T.next := t1; omega) t2 (fun j o hj ho => t3 j o hj (hB _ _ ho)) t4
theorem code0_nil : DPure Tryz.prog 11 [.v .nilIface] (.v (.int .i64 0)) := by
  refine dpure_of_dwp mixed Tryz.func11 rfl (fun _ _ => by kernel_rfl) (rs := [.tmp 2]) rfl (by kernel_rfl) trivial (fun S hS => ?_)
  (simp (disch := first | decide | omega | (simp only [nx]; first | done | omega)) only [go_sem, Nat.reduceMul, bnil_eq0]; (repeat (with_reducible refine And.intro (by first | omega | assumption | rfl) ?_)))
  refine ⟨?_, (by (repeat' first | assumption | exact St.Sub.refl _ | exact RowOk.sub (by assumption) (by assumption) | refine St.Sub.trans ?_ (RowOk.sub (by assumption) (by assumption)) | refine St.Sub.add ?_ ?_ _ | refine St.Sub.set ?_ ?_ ?_ _ | refine St.Sub.keep ?_ ?_ | refine St.WF.leave ?_ _ | refine St.WF.add ?_ _ | refine St.WF.set ?_ ?_ _ | refine St.WF.grow ?_ _ _ _ | refine St.WF.keep ?_ ?_ | (first | omega | (simp only [RowOk.lo, nx]; first | done | omega))))⟩
  rfl
theorem code0_er (n : Int) : DPure Tryz.prog 11 [erD n] (.v (.int .i64 n)) := by
  refine dpure_of_dwp mixed Tryz.func11 rfl (fun _ _ => by kernel_rfl) (rs := [.tmp 2]) rfl (by kernel_rfl) trivial (fun S hS => ?_)
  unfold erD
  (simp (disch := first | decide | omega | (simp only [nx]; first | done | omega)) only [go_sem, Nat.reduceMul]; (repeat (with_reducible refine And.intro (by first | omega | assumption | rfl) ?_)))
  refine as0 (x0 := .v (.int .i64 0)) ?_ fun T t1 t2 t3 t4 => ?_
  · show (if S.next = S.next then _ else _) = _
    rw [if_pos rfl]
  (simp (disch := first | decide | omega | (simp only [nx]; first | done | omega)) only [go_sem, Nat.reduceMul, t4]; (repeat (with_reducible refine And.intro (by first | omega | assumption | rfl) ?_)))
  have hsub : S.Sub T := ⟨by have : S.next + 1 ≤ T.next := t1; omega, fun j o ho => t3 j o (by have := hS.lt ho; omega) (by have := hS.lt ho; show (if j = S.next then _ else _) = _; rw [if_neg (by omega), ho])⟩
  refine ⟨?_, (by (repeat' first | assumption | exact St.Sub.refl _ | exact RowOk.sub (by assumption) (by assumption) | refine St.Sub.trans ?_ (RowOk.sub (by assumption) (by assumption)) | refine St.Sub.add ?_ ?_ _ | refine St.Sub.set ?_ ?_ ?_ _ | refine St.Sub.keep ?_ ?_ | refine St.WF.leave ?_ _ | refine St.WF.add ?_ _ | refine St.WF.set ?_ ?_ _ | refine St.WF.grow ?_ _ _ _ | refine St.WF.keep ?_ ?_ | (first | omega | (simp only [RowOk.lo, nx]; first | done | omega))))⟩
  rfl
end Go.Proofs.YtjjhjhjphhpeiaaGreatDoor

namespace Go.Proofs.YtjjhjhjphhpeiaaGreatDoor
open Go.RowKit
set_option linter.unusedSimpArgs false
set_option linter.unusedVariables false
theorem code_errO (c : Nat) : DPure Tryz.prog 11 [errO c] (.v (.int .i64 ((c : Nat) : Int))) := by
  unfold errO
  by_cases h : c = 0
  · subst h; exact code0_nil
  · rw [if_neg h]; exact code0_er _
end Go.Proofs.YtjjhjhjphhpeiaaGreatDoor

namespace Go.Proofs.YtjjhjhjphhpeiaaGreatDoor
open Go.RowKit
set_option linter.unusedSimpArgs false
set_option linter.unusedVariables false
theorem bet_apart {s : DSch} {a b : DVal} (h : betC s a b = 0) : Apart (betO s a b) := by
  obtain ⟨h1, h2, h3⟩ := betC_zero h
  rw [betO, if_pos h]
  exact (apartAt 5 s [] a b h2 h3 (RS.of_top h1).1).1
theorem bet_nil {s : DSch} {a b : DVal} (h : betC s a b = 0) : betO s a b = [] ↔ a = b := by
  obtain ⟨h1, h2, h3⟩ := betC_zero h
  rw [betO, if_pos h]
  have := GV.depth s.depth (Nat.le_refl _) h2
  have := RS.of_top h1
  exact dOps_nil h1 h2 h3 (by omega)
set_option maxRecDepth 200000 in
set_option maxHeartbeats 8000000 in
theorem deltaLeads_d (s : DSch) (a b : DVal) (hs : okS s) (hoa : okV a) (hob : okV b) : DPure Tryz.prog 3 [encS s, encV a, encV b] (.v (.bool true)) := by
  refine dpure_of_dwp mixed Tryz.func3 rfl (fun _ _ => by kernel_rfl) (rs := [.tmp 6]) rfl (by kernel_rfl) trivial (fun S hS => ?_)
  (simp (disch := first | decide | omega | (simp only [nx]; first | done | omega)) only [go_sem, Nat.reduceMul]; (repeat (with_reducible refine And.intro (by first | omega | assumption | rfl) ?_)))
  refine DCalls.of_pure (greatS_d s hs) ?_
  cases g1 : decide (roomS 12 s 300 < 0) with
  | true =>
    (simp (disch := first | decide | omega | (simp only [nx]; first | done | omega)) only [go_sem, Nat.reduceMul]; (repeat (with_reducible refine And.intro (by first | omega | assumption | rfl) ?_)))
    refine DCalls.of_pure awake13_d ?_
    (simp (disch := first | decide | omega | (simp only [nx]; first | done | omega)) only [go_sem, Nat.reduceMul]; (repeat (with_reducible refine And.intro (by first | omega | assumption | rfl) ?_)))
    refine ⟨?_, (by (repeat' first | assumption | exact St.Sub.refl _ | exact RowOk.sub (by assumption) (by assumption) | refine St.Sub.trans ?_ (RowOk.sub (by assumption) (by assumption)) | refine St.Sub.add ?_ ?_ _ | refine St.Sub.set ?_ ?_ ?_ _ | refine St.Sub.keep ?_ ?_ | refine St.WF.leave ?_ _ | refine St.WF.add ?_ _ | refine St.WF.set ?_ ?_ _ | refine St.WF.grow ?_ _ _ _ | refine St.WF.keep ?_ ?_ | (first | omega | (simp only [RowOk.lo, nx]; first | done | omega))))⟩
    rfl
  | false =>
  have hsw := (room_spec 12 s 300 (by have := of_decide_eq_false g1; omega)).1
  have n1 := of_decide_eq_false g1
  (simp (disch := first | decide | omega | (simp only [nx]; first | done | omega)) only [go_sem, Nat.reduceMul]; (repeat (with_reducible refine And.intro (by first | omega | assumption | rfl) ?_)))
  refine DCalls.of_pure (greatV_d a hoa) ?_
  cases g2 : decide (roomV 12 a 300 < 0) with
  | true =>
    (simp (disch := first | decide | omega | (simp only [nx]; first | done | omega)) only [go_sem, Nat.reduceMul]; (repeat (with_reducible refine And.intro (by first | omega | assumption | rfl) ?_)))
    refine DCalls.of_pure awake13_d ?_
    (simp (disch := first | decide | omega | (simp only [nx]; first | done | omega)) only [go_sem, Nat.reduceMul]; (repeat (with_reducible refine And.intro (by first | omega | assumption | rfl) ?_)))
    refine ⟨?_, (by (repeat' first | assumption | exact St.Sub.refl _ | exact RowOk.sub (by assumption) (by assumption) | refine St.Sub.trans ?_ (RowOk.sub (by assumption) (by assumption)) | refine St.Sub.add ?_ ?_ _ | refine St.Sub.set ?_ ?_ ?_ _ | refine St.Sub.keep ?_ ?_ | refine St.WF.leave ?_ _ | refine St.WF.add ?_ _ | refine St.WF.set ?_ ?_ _ | refine St.WF.grow ?_ _ _ _ | refine St.WF.keep ?_ ?_ | (first | omega | (simp only [RowOk.lo, nx]; first | done | omega))))⟩
    rfl
  | false =>
  have haw := (roomV_spec 12 a 300 (by have := of_decide_eq_false g2; omega)).1
  have n2 := of_decide_eq_false g2
  (simp (disch := first | decide | omega | (simp only [nx]; first | done | omega)) only [go_sem, Nat.reduceMul]; (repeat (with_reducible refine And.intro (by first | omega | assumption | rfl) ?_)))
  refine DCalls.of_pure (greatV_d b hob) ?_
  cases g3 : decide (roomV 12 b 300 < 0) with
  | true =>
    (simp (disch := first | decide | omega | (simp only [nx]; first | done | omega)) only [go_sem, Nat.reduceMul]; (repeat (with_reducible refine And.intro (by first | omega | assumption | rfl) ?_)))
    refine DCalls.of_pure awake13_d ?_
    (simp (disch := first | decide | omega | (simp only [nx]; first | done | omega)) only [go_sem, Nat.reduceMul]; (repeat (with_reducible refine And.intro (by first | omega | assumption | rfl) ?_)))
    refine ⟨?_, (by (repeat' first | assumption | exact St.Sub.refl _ | exact RowOk.sub (by assumption) (by assumption) | refine St.Sub.trans ?_ (RowOk.sub (by assumption) (by assumption)) | refine St.Sub.add ?_ ?_ _ | refine St.Sub.set ?_ ?_ ?_ _ | refine St.Sub.keep ?_ ?_ | refine St.WF.leave ?_ _ | refine St.WF.add ?_ _ | refine St.WF.set ?_ ?_ _ | refine St.WF.grow ?_ _ _ _ | refine St.WF.keep ?_ ?_ | (first | omega | (simp only [RowOk.lo, nx]; first | done | omega))))⟩
    rfl
  | false =>
  have hbw := (roomV_spec 12 b 300 (by have := of_decide_eq_false g3; omega)).1
  have n3 := of_decide_eq_false g3
  have hd1 := DVal.depth_weight a.depth a (Nat.le_refl _)
  have hd2 := DVal.depth_weight b.depth b (Nat.le_refl _)
  have hd3 := DSch.depth_weight s.depth s (Nat.le_refl _)
  (simp (disch := first | decide | omega | (simp only [nx]; first | done | omega)) only [go_sem, Nat.reduceMul]; (repeat (with_reducible refine And.intro (by first | omega | assumption | rfl) ?_)))
  refine DCalls.of_pure (bet_d s a b hs hoa hob) ?_
  (simp (disch := first | decide | omega | (simp only [nx]; first | done | omega)) only [go_sem, Nat.reduceMul]; (repeat (with_reducible refine And.intro (by first | omega | assumption | rfl) ?_)))
  refine DCalls.of_pure (refSchRight_d s hs (by omega)) ?_
  by_cases hr : rightS 5 s = true
  · rw [hr]
    (simp (disch := first | decide | omega | (simp only [nx]; first | done | omega)) only [go_sem, Nat.reduceMul]; (repeat (with_reducible refine And.intro (by first | omega | assumption | rfl) ?_)))
    refine DCalls.of_pure (refFitsTop_d a s hoa hs (by omega) (by omega)) ?_
    by_cases hfa : fitsTop a s = true
    · rw [hfa]
      (simp (disch := first | decide | omega | (simp only [nx]; first | done | omega)) only [go_sem, Nat.reduceMul]; (repeat (with_reducible refine And.intro (by first | omega | assumption | rfl) ?_)))
      refine DCalls.of_pure (refFitsTop_d b s hob hs (by omega) (by omega)) ?_
      by_cases hfb : fitsTop b s = true
      · rw [hfb]
        have hc : betC s a b = 0 := by rw [betC, if_pos hr, if_pos ⟨hfa, hfb⟩]
        have hlen := bet_len s a b
        have hokl := bet_ok hc hoa hob (by omega)
        have hends := bet_apply hc
        have hfit := (bet_leads hc).fit
        have hap := bet_apart hc
        have hnil := bet_nil hc
        rw [hc]
        generalize betO s a b = l at *
        (simp (disch := first | decide | omega | (simp only [nx]; first | done | omega)) only [go_sem, Nat.reduceMul, errO, if_pos]; (repeat (with_reducible refine And.intro (by first | omega | assumption | rfl) ?_)))
        (refine dloop_var (fun t => List.contains [6, 10, 11, 66, 67, 68, 69, 70, 71, 72, 73, 74, 75, 76, 77, 78, 79, 80, 81, 82, 83, 84, 85, 86, 87, 88, 89, 90, 91, 92, 93, 94, 95, 96, 97, 98, 99, 100, 101, 102, 103, 104, 105, 106, 107, 108, 109, 110, 111, 112, 113, 114, 115, 116, 117] t) (by kernel_rfl) ?_ (l.length) (S.next + 1 + 1 + 1) (fun i => .box 29 (encV (wantV s a l i)).cells) ?_ (fun i f => i ≤ l.length ∧ f 10 = .v (.int .i64 (i : Nat))) ?_ ?_; (exact (by (repeat' first | assumption | refine St.WF.leave ?_ _ | refine St.WF.add ?_ _ | refine St.WF.set ?_ ?_ _ | refine St.WF.grow ?_ _ _ _ | refine St.WF.keep ?_ ?_ | (first | omega | (simp only [RowOk.lo, nx]; first | done | omega))))); (exact (by (first | (simp (disch := first | decide | omega | (simp only [nx]; first | done | omega)) only [go_sem, Nat.reduceMul]; first | done | rfl) | rfl))); (exact ⟨(by omega), (by (first | (simp (disch := first | decide | omega | (simp only [nx]; first | done | omega)) only [go_sem, Nat.reduceMul]; first | done | rfl) | rfl))⟩); intro i g tn hn hT hg hI; obtain ⟨le, q10⟩ := hI; have q3 := hg 3 rfl; have q4 := hg 4 rfl; have q5 := hg 5 rfl; have q7 := hg 7 rfl; have q8 := hg 8 rfl; have q9 := hg 9 rfl; simp (disch := first | decide | omega | (simp only [nx]; first | done | omega)) only [go_sem, Nat.reduceMul] at q3 q4 q5 q7 q8 q9; clear hg; have hn' := hn; try simp only [add_next, set_next, grow_next, leave_next, drop_next] at hn')
        rw [wantV_eq] at *
        by_cases hlt : i < l.length
        · have b2 : decide ((i : Int) < (l.length : Int)) = true := by simp; omega
          have w1 : IntKind.i64.wrap ((i : Int) + 1) = ((i + 1 : Nat) : Int) := IntWalk.i64_in _ ⟨by omega, by omega⟩
          have hoo := hokl _ (List.getElem_mem hlt)
          have hno : ∀ o ∈ l.take i, OkO o := fun o ho => hokl o (List.mem_of_mem_take ho)
          have hwo := applyV_ok (s := s) hoa hno
          have hww := applyV_wt (s := s) hoa (by omega) hno
          have hgd := getD_map encO l i hlt
          have hsucc := applyV_snoc (s := s) hoa hlt hno
          have hch := hfit _ (List.getElem_mem hlt)
          (simp (disch := first | decide | omega | (simp only [nx]; first | done | omega)) only [go_sem, Nat.reduceMul, q3, q7, q10, b2, hgd]; (repeat (with_reducible refine And.intro (by first | omega | assumption | rfl) ?_)))
          refine ddraw_mk 7 (by kernel_rfl) ?_
          (simp (disch := first | decide | omega | (simp only [nx]; first | done | omega)) only [go_sem, Nat.reduceMul, q3, q7, q10, hgd]; (repeat (with_reducible refine And.intro (by first | omega | assumption | rfl) ?_)))
          refine dqgo_mk (refCheck_d l[i] s hoo hs (by omega)) ?_
          rw [hch]
          have b00 : ((0 : Int) != 0) = false := rfl
          (simp (disch := first | decide | omega | (simp only [nx]; first | done | omega)) only [go_sem, Nat.reduceMul, q3, q7, q10, b00]; (repeat (with_reducible refine And.intro (by first | omega | assumption | rfl) ?_)))
          refine ddraw_mk 7 (by kernel_rfl) ?_
          (simp (disch := first | decide | omega | (simp only [nx]; first | done | omega)) only [go_sem, Nat.reduceMul, q3, q7, q9, q10, hgd]; (repeat (with_reducible refine And.intro (by first | omega | assumption | rfl) ?_)))
          refine dqgo_mk (refApply_d l[i] s (applyV s a (l.take i)) hoo hs (by omega) hwo hww) ?_
          rw [← hsucc]
          (simp (disch := first | decide | omega | (simp only [nx]; first | done | omega)) only [go_sem, Nat.reduceMul, q3, q7, q9, q10]; (repeat (with_reducible refine And.intro (by first | omega | assumption | rfl) ?_)))
          (refine dloop_st (fun t => List.contains [6, 11, 86, 87, 88, 89, 90, 91, 92, 93, 94, 95, 96, 97, 98, 99, 100, 101, 102, 103, 104, 105, 106, 107, 108, 109, 110, 111, 112, 113, 114, 115, 116, 117] t) (by kernel_rfl) ?_ (i) (fun ij f => ij ≤ i ∧ f 11 = .v (.int .i64 ((ij : Nat) : Int))) ?_ ?_; (exact (by (repeat' first | assumption | refine St.WF.leave ?_ _ | refine St.WF.add ?_ _ | refine St.WF.set ?_ ?_ _ | refine St.WF.grow ?_ _ _ _ | refine St.WF.keep ?_ ?_ | (first | omega | (simp only [RowOk.lo, nx]; first | done | omega))))); (exact ⟨(by omega), (by (first | (simp (disch := first | decide | omega | (simp only [nx]; first | done | omega)) only [go_sem, Nat.reduceMul, q3, q4, q5, q7, q8, q9, q10]; first | done | rfl) | rfl))⟩); intro ij gj tnj hnj hTj hgj hIj; obtain ⟨lej, q11j⟩ := hIj; have q4j := hgj 4 rfl; have q5j := hgj 5 rfl; have q7j := hgj 7 rfl; have q8j := hgj 8 rfl; have q9j := hgj 9 rfl; have q10j := hgj 10 rfl; simp (disch := first | decide | omega | (simp only [nx]; first | done | omega)) only [go_sem, Nat.reduceMul, q3, q4, q5, q7, q8, q9, q10] at q4j q5j q7j q8j q9j q10j; clear hgj; have hnj' := hnj; try simp only [add_next, set_next, grow_next, leave_next, drop_next] at hnj')
          by_cases hj : ij < i
          · have b3 : decide ((ij : Int) < (i : Int)) = true := by simp; omega
            have w2 : IntKind.i64.wrap ((ij : Int) + 1) = ((ij + 1 : Nat) : Int) := IntWalk.i64_in _ ⟨by omega, by omega⟩
            have hjl : ij < l.length := by omega
            have hgj := getD_map encO l ij hjl
            have hpw := List.pairwise_iff_getElem.1 hap ij i hjl hlt hj
            (simp (disch := first | decide | omega | (simp only [nx]; first | done | omega)) only [go_sem, Nat.reduceMul, q7j, q10j, q11j, b3]; (repeat (with_reducible refine And.intro (by first | omega | assumption | rfl) ?_)))
            refine ddraw_mk 26 (by kernel_rfl) ?_
            by_cases k1 : l[ij].kind = 1
            · have c1 : (l[ij].kind == 1) = true := by simp [k1]
              by_cases k2 : l[i].kind = 1
              · have c2 : (l[i].kind == 1) = true := by simp [k2]
                have hpn : ¬ l[ij].path = l[i].path := fun e => hpw ⟨k1, k2, e⟩
                (simp (disch := first | decide | omega | (simp only [nx]; first | done | omega)) only [go_sem, Nat.reduceMul, q7j, q10j, q11j, hgj, hgd, opCs, c1, c2]; (repeat (with_reducible refine And.intro (by first | omega | assumption | rfl) ?_)))
                refine dqgo_mk (refSameP_d .no .no l[ij].path l[i].path (by have := (hokl _ (List.getElem_mem hjl)).path; omega) (by have := hoo.path; omega)) ?_
                rw [decide_eq_false hpn]
                (simp (disch := first | decide | omega | (simp only [nx]; first | done | omega)) only [go_sem, Nat.reduceMul, q7j, q10j, q11j, w2]; (repeat (with_reducible refine And.intro (by first | omega | assumption | rfl) ?_)))
                (refine ⟨by omega, (by (repeat' first | assumption | exact St.Sub.refl _ | exact RowOk.sub (by assumption) (by assumption) | refine St.Sub.trans ?_ (RowOk.sub (by assumption) (by assumption)) | refine St.Sub.add ?_ ?_ _ | refine St.Sub.set ?_ ?_ ?_ _ | refine St.Sub.keep ?_ ?_ | refine St.WF.leave ?_ _ | refine St.WF.add ?_ _ | refine St.WF.set ?_ ?_ _ | refine St.WF.grow ?_ _ _ _ | refine St.WF.keep ?_ ?_ | (first | omega | (simp only [RowOk.lo, nx]; first | done | omega)))), ?_⟩; refine ⟨by omega, ?_⟩; all_goals (try (first | (simp (disch := first | decide | omega | (simp only [nx]; first | done | omega)) only [go_sem, Nat.reduceMul, w2]; first | done | rfl) | rfl)))
              · have c2 : (l[i].kind == 1) = false := by simp [k2]
                (simp (disch := first | decide | omega | (simp only [nx]; first | done | omega)) only [go_sem, Nat.reduceMul, q7j, q10j, q11j, hgj, hgd, opCs, c1, c2, w2]; (repeat (with_reducible refine And.intro (by first | omega | assumption | rfl) ?_)))
                (refine ⟨by omega, (by (repeat' first | assumption | exact St.Sub.refl _ | exact RowOk.sub (by assumption) (by assumption) | refine St.Sub.trans ?_ (RowOk.sub (by assumption) (by assumption)) | refine St.Sub.add ?_ ?_ _ | refine St.Sub.set ?_ ?_ ?_ _ | refine St.Sub.keep ?_ ?_ | refine St.WF.leave ?_ _ | refine St.WF.add ?_ _ | refine St.WF.set ?_ ?_ _ | refine St.WF.grow ?_ _ _ _ | refine St.WF.keep ?_ ?_ | (first | omega | (simp only [RowOk.lo, nx]; first | done | omega)))), ?_⟩; refine ⟨by omega, ?_⟩; all_goals (try (first | (simp (disch := first | decide | omega | (simp only [nx]; first | done | omega)) only [go_sem, Nat.reduceMul, w2]; first | done | rfl) | rfl)))
            · have c1 : (l[ij].kind == 1) = false := by simp [k1]
              (simp (disch := first | decide | omega | (simp only [nx]; first | done | omega)) only [go_sem, Nat.reduceMul, q7j, q10j, q11j, hgj, hgd, opCs, c1, w2]; (repeat (with_reducible refine And.intro (by first | omega | assumption | rfl) ?_)))
              (refine ⟨by omega, (by (repeat' first | assumption | exact St.Sub.refl _ | exact RowOk.sub (by assumption) (by assumption) | refine St.Sub.trans ?_ (RowOk.sub (by assumption) (by assumption)) | refine St.Sub.add ?_ ?_ _ | refine St.Sub.set ?_ ?_ ?_ _ | refine St.Sub.keep ?_ ?_ | refine St.WF.leave ?_ _ | refine St.WF.add ?_ _ | refine St.WF.set ?_ ?_ _ | refine St.WF.grow ?_ _ _ _ | refine St.WF.keep ?_ ?_ | (first | omega | (simp only [RowOk.lo, nx]; first | done | omega)))), ?_⟩; refine ⟨by omega, ?_⟩; all_goals (try (first | (simp (disch := first | decide | omega | (simp only [nx]; first | done | omega)) only [go_sem, Nat.reduceMul, w2]; first | done | rfl) | rfl)))
          · have b3 : decide ((ij : Int) < (i : Int)) = false := by simp; omega
            (simp (disch := first | decide | omega | (simp only [nx]; first | done | omega)) only [go_sem, Nat.reduceMul, q7j, q10j, q11j, b3, w1]; (repeat (with_reducible refine And.intro (by first | omega | assumption | rfl) ?_)))
            refine ⟨by omega, ⟨Nat.le_trans hn hnj', fun j o e => ?_⟩, by omega, by (first | (simp (disch := first | decide | omega | (simp only [nx]; first | done | omega)) only [go_sem, Nat.reduceMul]; first | done | rfl) | rfl)⟩
            simp only [wantV_eq] at e
            by_cases hjv : j = S.next + 1 + 1 + 1
            · subst hjv
              rw [set_eq] at e
              exact set_eq.trans e
            · rw [set_ne hjv] at e
              exact (set_ne hjv).trans ((set_ne hjv).trans e)
        · have b2 : decide ((i : Int) < (l.length : Int)) = false := by simp; omega
          have hil : l.take i = l := List.take_of_length_le (by omega)
          rw [hil, hends]
          (simp (disch := first | decide | omega | (simp only [nx]; first | done | omega)) only [go_sem, Nat.reduceMul, q7, q10, b2, q3, q4, q5, q9, q8]; (repeat (with_reducible refine And.intro (by first | omega | assumption | rfl) ?_)))
          refine DCalls.of_pure (refSameV_d b b hob hob) ?_
          rw [eqB_true rfl]
          (simp (disch := first | decide | omega | (simp only [nx]; first | done | omega)) only [go_sem, Nat.reduceMul, q7, q10, b2, q3, q4, q5, q9, q8]; (repeat (with_reducible refine And.intro (by first | omega | assumption | rfl) ?_)))
          refine DCalls.of_pure (refSameV_d a b hoa hob) ?_
          have hz : ((((l.length : Nat) : Int) == 0) == eqB a b) = true := by
            by_cases e : a = b
            · rw [eqB_true e, hnil.2 e]; rfl
            · rw [eqB_false e]
              have : l.length ≠ 0 := fun h => e (hnil.1 (List.eq_nil_of_length_eq_zero h))
              have h1 : (((l.length : Nat) : Int) == 0) = false := by rw [beq_eq_false_iff_ne]; omega
              rw [h1]; rfl
          (simp (disch := first | decide | omega | (simp only [nx]; first | done | omega)) only [go_sem, Nat.reduceMul, q7, q10, b2, q3, q4, q5, q9, q8, hz]; (repeat (with_reducible refine And.intro (by first | omega | assumption | rfl) ?_)))
          refine DCalls.of_pure awake13_d ?_
          (simp (disch := first | decide | omega | (simp only [nx]; first | done | omega)) only [go_sem, Nat.reduceMul]; (repeat (with_reducible refine And.intro (by first | omega | assumption | rfl) ?_)))
          refine ⟨?_, (by (repeat' first | assumption | exact St.Sub.refl _ | exact RowOk.sub (by assumption) (by assumption) | refine St.Sub.trans ?_ (RowOk.sub (by assumption) (by assumption)) | refine St.Sub.add ?_ ?_ _ | refine St.Sub.set ?_ ?_ ?_ _ | refine St.Sub.keep ?_ ?_ | refine St.WF.leave ?_ _ | refine St.WF.add ?_ _ | refine St.WF.set ?_ ?_ _ | refine St.WF.grow ?_ _ _ _ | refine St.WF.keep ?_ ?_ | (first | omega | (simp only [RowOk.lo, nx]; first | done | omega))))⟩
          rfl
      · rw [Bool.eq_false_iff.2 hfb]
        have hc : betC s a b = 6 := by rw [betC, if_pos hr, if_neg (fun h => hfb h.2)]
        have hl0 : betO s a b = [] := by rw [betO, if_neg (by omega)]
        rw [hc, hl0]
        (simp (disch := first | decide | omega | (simp only [nx]; first | done | omega)) only [go_sem, Nat.reduceMul]; (repeat (with_reducible refine And.intro (by first | omega | assumption | rfl) ?_)))
        refine DCalls.of_pure (code_errO 6) ?_
        have b1 : (((6 : Nat) : Int) == 6) = true := rfl
        have b2 : (((0 : Nat) : Int) == 0) = true := rfl
        (simp (disch := first | decide | omega | (simp only [nx]; first | done | omega)) only [go_sem, Nat.reduceMul, b1, b2, List.length_nil]; (repeat (with_reducible refine And.intro (by first | omega | assumption | rfl) ?_)))
        refine DCalls.of_pure awake13_d ?_
        (simp (disch := first | decide | omega | (simp only [nx]; first | done | omega)) only [go_sem, Nat.reduceMul]; (repeat (with_reducible refine And.intro (by first | omega | assumption | rfl) ?_)))
        refine ⟨?_, (by (repeat' first | assumption | exact St.Sub.refl _ | exact RowOk.sub (by assumption) (by assumption) | refine St.Sub.trans ?_ (RowOk.sub (by assumption) (by assumption)) | refine St.Sub.add ?_ ?_ _ | refine St.Sub.set ?_ ?_ ?_ _ | refine St.Sub.keep ?_ ?_ | refine St.WF.leave ?_ _ | refine St.WF.add ?_ _ | refine St.WF.set ?_ ?_ _ | refine St.WF.grow ?_ _ _ _ | refine St.WF.keep ?_ ?_ | (first | omega | (simp only [RowOk.lo, nx]; first | done | omega))))⟩
        rfl
    · rw [Bool.eq_false_iff.2 hfa]
      have hc : betC s a b = 6 := by rw [betC, if_pos hr, if_neg (fun h => hfa h.1)]
      have hl0 : betO s a b = [] := by rw [betO, if_neg (by omega)]
      rw [hc, hl0]
      (simp (disch := first | decide | omega | (simp only [nx]; first | done | omega)) only [go_sem, Nat.reduceMul]; (repeat (with_reducible refine And.intro (by first | omega | assumption | rfl) ?_)))
      refine DCalls.of_pure (code_errO 6) ?_
      have b1 : (((6 : Nat) : Int) == 6) = true := rfl
      have b2 : (((0 : Nat) : Int) == 0) = true := rfl
      (simp (disch := first | decide | omega | (simp only [nx]; first | done | omega)) only [go_sem, Nat.reduceMul, b1, b2, List.length_nil]; (repeat (with_reducible refine And.intro (by first | omega | assumption | rfl) ?_)))
      refine DCalls.of_pure awake13_d ?_
      (simp (disch := first | decide | omega | (simp only [nx]; first | done | omega)) only [go_sem, Nat.reduceMul]; (repeat (with_reducible refine And.intro (by first | omega | assumption | rfl) ?_)))
      refine ⟨?_, (by (repeat' first | assumption | exact St.Sub.refl _ | exact RowOk.sub (by assumption) (by assumption) | refine St.Sub.trans ?_ (RowOk.sub (by assumption) (by assumption)) | refine St.Sub.add ?_ ?_ _ | refine St.Sub.set ?_ ?_ ?_ _ | refine St.Sub.keep ?_ ?_ | refine St.WF.leave ?_ _ | refine St.WF.add ?_ _ | refine St.WF.set ?_ ?_ _ | refine St.WF.grow ?_ _ _ _ | refine St.WF.keep ?_ ?_ | (first | omega | (simp only [RowOk.lo, nx]; first | done | omega))))⟩
      rfl
  · rw [Bool.eq_false_iff.2 hr]
    have hc : betC s a b = 1 := by rw [betC, if_neg hr]
    have hl0 : betO s a b = [] := by rw [betO, if_neg (by omega)]
    rw [hc, hl0]
    (simp (disch := first | decide | omega | (simp only [nx]; first | done | omega)) only [go_sem, Nat.reduceMul]; (repeat (with_reducible refine And.intro (by first | omega | assumption | rfl) ?_)))
    refine DCalls.of_pure (code_errO 1) ?_
    have b1 : (((1 : Nat) : Int) == 1) = true := rfl
    have b2 : (((0 : Nat) : Int) == 0) = true := rfl
    (simp (disch := first | decide | omega | (simp only [nx]; first | done | omega)) only [go_sem, Nat.reduceMul, b1, b2, List.length_nil]; (repeat (with_reducible refine And.intro (by first | omega | assumption | rfl) ?_)))
    refine DCalls.of_pure awake13_d ?_
    (simp (disch := first | decide | omega | (simp only [nx]; first | done | omega)) only [go_sem, Nat.reduceMul]; (repeat (with_reducible refine And.intro (by first | omega | assumption | rfl) ?_)))
    refine ⟨?_, (by (repeat' first | assumption | exact St.Sub.refl _ | exact RowOk.sub (by assumption) (by assumption) | refine St.Sub.trans ?_ (RowOk.sub (by assumption) (by assumption)) | refine St.Sub.add ?_ ?_ _ | refine St.Sub.set ?_ ?_ ?_ _ | refine St.Sub.keep ?_ ?_ | refine St.WF.leave ?_ _ | refine St.WF.add ?_ _ | refine St.WF.set ?_ ?_ _ | refine St.WF.grow ?_ _ _ _ | refine St.WF.keep ?_ ?_ | (first | omega | (simp only [RowOk.lo, nx]; first | done | omega))))⟩
    rfl
end Go.Proofs.YtjjhjhjphhpeiaaGreatDoor

namespace Go.Proofs.YtjjhjhjphhpeiaaGreatDoor
open Go.ChangeShapes Go.WideShapes Go.ChangeAt Go.RowKit
set_option maxRecDepth 100000 in
theorem deltaLeads_lifted (os : Os) (started : os.Started) (H : Type) (enc : TypeId × Value → H) :
    ReturnsInHanded {} Tryz.checked os 3 .any (fun w args => (Rows.deltaLeadsSpec.pre enc Tryz.prog Tryz.f3 [] false w args ∧ laidMetH Tryz.prog doorLaid w) ∧ sizedMet enc Tryz.prog Tryz.f3 (OpenSpec.ofChange Rows.deltaLeadsSpec) false w args)
      (Rows.deltaLeadsSpec.post enc Tryz.prog Tryz.f3 false true false false) := by
  refine returnsInHanded_of_change_and (C := Tryz.checked) (X := fun w _ => laidMetH Tryz.prog doorLaid w) (fun _ _ _ hh h => h.of_heap hh) door_own started (by kernel_rfl) Tryz.func3
    (ChangeSpec.witness_at (enc := enc) (C := Tryz.checked) (os := os) (X := fun w _ => laidMetH Tryz.prog doorLaid w) false (laidWorld os) #[.agg #[.int .i64 0, .slice none 0 0, .slice none 0 0], .agg #[.int .i64 0, .int .i64 0, .string "".toUTF8, .slice none 0 0, .slice none 0 0, .slice none 0 0], .agg #[.int .i64 0, .int .i64 0, .string "".toUTF8, .slice none 0 0, .slice none 0 0, .slice none 0 0]] 8 rfl (by kernel_rfl) (by kernel_rfl) (by kernel_rfl) (by kernel_rfl) (by kernel_rfl) (laidWorld_met os _)) ?_
  intro W base args ds gs before hval0 hW hcnd hsz0 hL _
  have hG := glob_of_laid hL
  have hval : ∀ (j : Nat) t v, Tryz.f3.params[j]? = some t → args[j]? = some v → Value.okWide Tryz.prog W .any base t v := hval0
  have hsz : (DataW.weightsEach Tryz.prog (Tryz.f3.params.toList ++ Rows.deltaLeadsSpec.plain.varTypes Tryz.prog) (ds ++ gs)).all (· ≤ reachBytes) = true := hsz0
  have hW' := hW
  obtain ⟨p, q, hA0, hV, rfl, hfz, hnd⟩ := hW
  have hA : DataW.TrodAll enc Tryz.prog W 0 (fun _ => true) true Tryz.f3.params.toList args.toList ds p := hA0
  obtain ⟨rfl, rfl⟩ := trodVars_none hV
  rw [Tryz.params3] at hA hval hsz
  have hA1 := hA
  obtain ⟨v0, vs0, d0, ds0, p0, q0, hargs, rfl, rfl, h0, r0⟩ := trodAll_cons hA
  obtain ⟨v1, vs1, d1, ds1, p1, q1, rfl, rfl, rfl, h1, r1⟩ := trodAll_cons r0
  obtain ⟨v2, vs2, d2, ds2, p2, q2, rfl, rfl, rfl, h2, r2⟩ := trodAll_cons r1
  obtain ⟨rfl, rfl, rfl⟩ := trodAll_nil r2
  obtain rfl : args = #[v0, v1, v2] := by cases args; simp_all
  have z0 : Sized Tryz.prog 25 d0 := sized_of_each (j := 0) hsz rfl rfl
  have k0 : Value.okWide Tryz.prog W .any base 25 v0 := hval 0 _ _ rfl rfl
  have z1 : Sized Tryz.prog 29 d1 := sized_of_each (j := 1) hsz rfl rfl
  have k1 : Value.okWide Tryz.prog W .any base 29 v1 := hval 1 _ _ rfl rfl
  have z2 : Sized Tryz.prog 29 d2 := sized_of_each (j := 2) hsz rfl rfl
  have k2 : Value.okWide Tryz.prog W .any base 29 v2 := hval 2 _ _ rfl rfl
  clear hA0 hval0 hsz hsz0 hval
  have key : Calls Tryz.prog 3 #[v0, v1, v2] W (Gives (.bool true) W) := by
    obtain ⟨s, cs, rfl, hs⟩ := open_schema h0 z0 k0
    obtain ⟨t, ds, rfl, ht⟩ := open_value h1 z1 k1
    obtain ⟨u, es, rfl, hu⟩ := open_value h2 z2 k2
    exact door_gives (vs := [.agg cs.toArray, .agg ds.toArray, .agg es.toArray]) (deltaLeads_d s t u hs.ok ht.ok hu.ok) (by simp only [RepL]; exact ⟨_, _, rfl, rep_sch (fun b i _ => fix_nilD b i) hs, _, _, rfl, rep_val (fun b i _ => fix_nilD b i) ht, _, _, rfl, rep_val (fun b i _ => fix_nilD b i) hu, rfl⟩) (by intro _ _; kernel_rfl) hG
  refine key.mono fun e W' ⟨he, bel⟩ => ?_
  subst he
  exact ⟨_, rfl, _, _, _, [], _, [], hW', trodAll_mk1 (shut_bool Tryz.underlying4 _), trodAll_below door_laidOut bel (by kernel_rfl) hA1, rfl, bel.frame _, fun h => by cases h⟩

theorem deltaLeads_row : Rows.DeltaLeadsSaid :=
  OpenClaim.holds_of_wide 3 Tryz.f3 rfl rfl rfl rfl rfl rfl rfl ⟨rfl, rfl, rfl, rfl, rfl⟩ rfl rfl rfl rfl rfl (by kernel_rfl) Tryz.func3 (by kernel_rfl)
    (of_decide_eq_true (by kernel_rfl)) (by unfold Func.isWrapper; first | (rw [if_pos (by decide +kernel)]; kernel_rfl) | (rw [if_neg (by decide +kernel)]; exact ⟨rfl, rfl⟩))
    (fun os started H enc _ => deltaLeads_lifted os started H enc)
theorem deltaLeads_holds : Rows.DeltaLeadsCardSaid :=
  Claim7.holds_tied_plain_at .later [] [.handle] true Rows.deltaLeadsCard.stood.harness true
    deltaLeads_row (fun _ h => by cases h) (by kernel_rfl) (fun _ h => by cases h) deltaLeads_row_tie rfl ⟨rfl, rfl⟩ (by kernel_rfl) rfl
    (fun f fn hf hfn => by
      obtain rfl : f = 3 := Option.some.inj ((show Tryz.prog.funcNamed "dioptre/dioptrelaw13.DeltaLeads" = some 3 by kernel_rfl).symm.trans hf) |>.symm
      obtain rfl : fn = Tryz.f3 := (Option.some.inj (Tryz.func3.symm.trans hfn)).symm
      exact ⟨by kernel_rfl, fun j t ht => by
        rw [Tryz.params3] at ht
        have ht' := List.mem_of_getElem? (Array.getElem?_toList ▸ ht)
        simp only [List.mem_cons, List.not_mem_nil, or_false] at ht'
        rcases ht' with rfl | rfl | rfl <;> exact (show Tryz.prog.wantsStandIn _ = false by kernel_rfl)⟩)
    (by kernel_rfl)
#print axioms deltaLeads_holds
end Go.Proofs.YtjjhjhjphhpeiaaGreatDoor
