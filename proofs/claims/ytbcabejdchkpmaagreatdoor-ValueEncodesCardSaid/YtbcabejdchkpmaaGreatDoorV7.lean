/- ValueEncodes answers true for any value, and leaves its argument as it was. Conditions: none but the statement's own. -/
import Derived.Test.YtbcabejdchkpmaaGreatDoorV6
import Derived.LaidEql
import Derived.Stop.Asserts
import Derived.RowKitTokens
import Derived.Test.YtbcabejdchkpmaaGreatDoorCards
import Derived.Test.YtbcabejdchkpmaaGreatDoorTie
import Derived.SevenTiedAt
import Derived.RowKit
set_option linter.unusedVariables false
set_option linter.unusedSimpArgs false
namespace Go.Proofs.YtbcabejdchkpmaaGreatDoor
open Go.RowKit
def errD (n : Int) : D := .ifc 42 (.v (.int .i64 n))
def bytesOfV (v : DVal) : List UInt8 := bytesV v.depth v
def encRes (v : DVal) : D :=
  if rightV 5 v = false then .tup [.sl .no [], errD 1]
  else if 4096 < (bytesOfV v).length then .tup [.sl .no [], errD 3]
  else .tup [.sl .no ((bytesOfV v).map bD), .v .nilIface]
theorem closed_bD (l : List UInt8) : allL (fun _ => False) (l.map bD) := allL_iff.2 fun d hd => by
  obtain ⟨b, _, rfl⟩ := List.mem_map.1 hd
  simp [bD, D.all]
theorem frz_bD (l : List UInt8) : frzL (l.map bD) = l.map bD := by
  induction l with
  | nil => rfl
  | cons b l ih => simp only [List.map_cons, frzL, ih]; rfl
theorem encRes_closed (v : DVal) : (encRes v).closed := by
  unfold encRes errD
  split
  · simp [D.closed, D.all, allL, Own.all]
  · split
    · simp [D.closed, D.all, allL, Own.all]
    · simp only [D.closed, D.all, allL, Own.all]
      exact ⟨⟨trivial, closed_bD _⟩, trivial, trivial⟩
set_option maxRecDepth 200000 in
set_option maxHeartbeats 4000000 in
theorem encode_d (v : DVal) (ho : okV v) (hw : v.weight ≤ 100000) : DPure Tryz.prog 6 [encV v] (encRes v) := by
  refine dpure_of_dwp mixed Tryz.func6 rfl (fun _ _ => by kernel_rfl) (rs := [.tmp 2, .tmp 3]) rfl (by kernel_rfl) (encRes_closed v) (fun S hS => ?_)
  (simp (disch := first | decide | omega | (simp only [nx]; first | done | omega)) only [go_sem]; (repeat with_reducible refine aI ?_))
  refine DCalls.of_pure (valRight_d v ho) ?_
  cases hR : rightV 5 v
  · (simp (disch := first | decide | omega | (simp only [nx]; first | done | omega)) only [go_sem]; (repeat with_reducible refine aI ?_))
    refine ⟨?_, (by (repeat' first | assumption | exact St.Sub.refl _ | exact RowOk.sub (by assumption) (by assumption) | refine St.Sub.trans ?_ (RowOk.sub (by assumption) (by assumption)) | refine St.Sub.add ?_ ?_ _ | refine St.Sub.set ?_ ?_ ?_ _ | refine St.Sub.keep ?_ ?_ | refine St.WF.leave ?_ _ | refine St.WF.add ?_ _ | refine St.WF.set ?_ ?_ _ | refine St.WF.grow ?_ _ _ _ | refine St.WF.keep ?_ ?_ | (first | omega | (simp only [RowOk.lo, nx]; first | done | omega))))⟩
    rw [encRes, if_pos hR]
    rfl
  · have hr := RV.of_right hR
    (simp (disch := first | decide | omega | (simp only [nx]; first | done | omega)) only [go_sem]; (repeat with_reducible refine aI ?_))
    refine (valWrite_w v.depth v (k := S.next + 1) (bs := []) (Nat.le_refl _) hr ho hw (by simp only [add_next]; omega) ⟨.full, by (first | (simp (disch := first | decide | omega | (simp only [nx]; first | done | omega)) only [go_sem]; first | done | rfl) | rfl), .inl ⟨rfl, rfl⟩⟩ (by simp; omega)).wf.mono ?_
    rintro _ T ⟨⟨rfl, hW, hF⟩, hT⟩
    have hbl := bytesV_len v.depth v (Nat.le_refl _) hr ho
    rw [List.nil_append] at hW
    (simp (disch := first | decide | omega | (simp only [nx]; first | done | omega)) only [go_sem]; (repeat with_reducible refine aI ?_))
    refine (out_w hW (by omega)).wf.mono ?_
    rintro _ T1 ⟨⟨o, rfl, hW1, hF1⟩, hT1⟩
    have hsub : S.Sub T1 := by
      have h1 := hF.trans hF1
      have hn := h1.next
      simp only [add_next] at hn
      exact ⟨by omega, fun j o' hj => h1.ob j o' (.inl (by have := hS.lt hj; omega)) (by have := hS.lt hj; rw [ob_skip (by simp only [add_next]; omega), ob_skip (by omega)]; exact hj)⟩
    by_cases h4 : 4096 < (bytesV v.depth v).length
    · have b1 : decide ((4096 : Int) < ((bytesV v.depth v).length : Int)) = true := by simp; omega
      (simp (disch := first | decide | omega | (simp only [nx]; first | done | omega)) only [go_sem, b1]; (repeat with_reducible refine aI ?_))
      refine ⟨?_, hsub⟩
      rw [encRes, if_neg (by rw [hR]; simp), if_pos (show 4096 < (bytesOfV v).length from h4)]
      rfl
    · have b1 : decide ((4096 : Int) < ((bytesV v.depth v).length : Int)) = false := by simp; omega
      (simp (disch := first | decide | omega | (simp only [nx]; first | done | omega)) only [go_sem, b1]; (repeat with_reducible refine aI ?_))
      refine ⟨?_, hsub⟩
      rw [encRes, if_neg (by rw [hR]; simp), if_neg (show ¬ 4096 < (bytesOfV v).length from h4)]
      simp only [D.frz, frzL, frz_bD]
      rfl
end Go.Proofs.YtbcabejdchkpmaaGreatDoor

namespace Go.Proofs.YtbcabejdchkpmaaGreatDoor
open Go.RowKit Go.Extern.Stop Go.Stop Go.Extern
/-! The value that a tree without memory stands for. -/
mutual
def D.val : D → Option Value
  | .v x => some x
  | .ifc t d => (D.val d).map (Value.iface t ·)
  | .agg cs => (valL cs).bind fun vs => bif vs.all (·.oneCell') then some (.agg vs.toArray) else none
  | _ => none
def valL : List D → Option (List Value)
  | [] => some []
  | d :: l => (D.val d).bind fun x => (valL l).map (x :: ·)
end
section
variable {P : Program} {w : World} {η : Names} {X : Nat → Nat → Prop}
mutual
theorem rep_val_iff : ∀ {d : D} {x : Value}, D.val d = some x → ∀ {y : Value}, Rep P w η X d y ↔ y = x
  | .v x, _, h, y => by simp only [D.val, Option.some.injEq] at h; subst h; simp only [Rep]
  | .ifc t d, _, h, y => by
    simp only [D.val, Option.map_eq_some_iff] at h
    obtain ⟨z, h1, rfl⟩ := h
    simp only [Rep]
    constructor
    · rintro ⟨u, rfl, hu⟩
      rw [(rep_val_iff h1).1 hu]
    · rintro rfl
      exact ⟨z, rfl, (rep_val_iff h1).2 rfl⟩
  | .agg cs, _, h, y => by
    simp only [D.val, Option.bind_eq_some_iff] at h
    obtain ⟨vs, h1, h2⟩ := h
    cases hb : vs.all (·.oneCell') with
    | false => rw [hb] at h2; cases h2
    | true =>
      rw [hb] at h2
      simp only [cond_true, Option.some.injEq] at h2
      subst h2
      simp only [Rep]
      constructor
      · rintro ⟨us, rfl, hu, _⟩
        rw [(rep_valL_iff h1).1 hu]
      · rintro rfl
        exact ⟨vs, rfl, (rep_valL_iff h1).2 rfl, fun u hu => List.all_eq_true.1 hb u hu⟩
  | .tup _, _, h, _ => by simp [D.val] at h
  | .fn _ _ _, _, h, _ => by simp [D.val] at h
  | .loc _ _, _, h, _ => by simp [D.val] at h
  | .rd _ _, _, h, _ => by simp [D.val] at h
  | .sl _ _, _, h, _ => by simp [D.val] at h
  | .win _ _ _ _, _, h, _ => by simp [D.val] at h
theorem rep_valL_iff : ∀ {l : List D} {vs : List Value}, valL l = some vs → ∀ {us : List Value}, RepL P w η X l us ↔ us = vs
  | [], _, h, us => by simp only [valL, Option.some.injEq] at h; subst h; simp only [RepL]
  | d :: l, _, h, us => by
    simp only [valL, Option.bind_eq_some_iff, Option.map_eq_some_iff] at h
    obtain ⟨x, h1, xs, h2, rfl⟩ := h
    simp only [RepL]
    constructor
    · rintro ⟨y, ys, rfl, hy, hys⟩
      rw [(rep_val_iff h1).1 hy, (rep_valL_iff h2).1 hys]
    · rintro rfl
      exact ⟨x, xs, rfl, (rep_val_iff h1).2 rfl, (rep_valL_iff h2).2 rfl⟩
end
end
section
variable {P : Program} {S : St} {K : D → St → Prop}
theorem dext {g : FuncId} {fn : Func} {e : Array Value → Sem Value} (hf : P.funcs[g]? = some fn) (hname : (fn.name == "runtime.NumGoroutine") = false) (hb : fn.body.isNone = true) (hn : Extern.findNext fn = none) (hx : Extern.find fn = some e) {args : List D}
    (h : ∀ base η w vs, Mem P base S η w → RepL P w η (Fix P S η) args vs → ∃ d S' η' v w', (e vs.toArray).run P w = .ok v w' ∧ K d S' ∧ Rep P w' η' (Fix P S' η') d v ∧ Goes P base S η w S' η' w') : DCalls P g args S K := fun base η w vs hM hr => by
  obtain ⟨d, S', η', v, w', h1, h2, h3, h4⟩ := h base η w vs hM hr
  refine .inr ⟨d, S', η', v, w', ?_, h2, h3, h4⟩
  rw [run_callFunc_extern hf hname hb hn hx, h1]
  rfl
theorem dext_pure {g : FuncId} {fn : Func} {e : Array Value → Sem Value} (hf : P.funcs[g]? = some fn) (hname : (fn.name == "runtime.NumGoroutine") = false) (hb : fn.body.isNone = true) (hn : Extern.findNext fn = none) (hx : Extern.find fn = some e) {args : List D} {us : List Value} {r : Value} {d : D}
    (hv : valL args = some us) (h : ∀ w, (e us.toArray).run P w = .ok r w) (hd : D.val d = some r) (hk : K d S) : DCalls P g args S K :=
  dext hf hname hb hn hx fun base η w vs hM hr => by
    rw [(rep_valL_iff hv).1 hr]
    exact ⟨d, S, η, r, w, h w, hk, (rep_val_iff hd).2 rfl, Goes.refl hM⟩
theorem dmeth_pure {t : TypeId} {d d' : D} {m : String} {g : FuncId} {x r : Value} (hd : D.val d = some x) (hd' : D.val d' = some r) (h : ∀ w, (method (P.types.size + Made.depth) t x m).run P w = .ok (g, r) w) : DMeth P t d m g d' := fun w η X v hr => by
  rw [(rep_val_iff hd).1 hr]
  exact ⟨r, h w, (rep_val_iff hd').2 rfl⟩
end
abbrev tyV (t : TypeId) : Value := .pointer (some ⟨1, t, none⟩)
abbrev tyD (t : TypeId) : D := .agg [.v (tyV t)]
abbrev rtD (t : TypeId) : D := .ifc 94 (tyD t)
theorem rlm (z : Sem Value) (f : TypeId → Addr → Nat → Nat → Sem Value) (v : Value) :
    ReflectliteValue.method z f #[v] = (do match ← ReflectliteValue.parts v with | none => z | some (t, a, fl) => f t a fl (fl % 32)) := rfl
theorem rls (v x : Value) : ReflectliteValue.set #[v, x] = (do
    let (some (dst, a, fl), some (src, b, _)) := (← ReflectliteValue.parts v, ← ReflectliteValue.parts x)
      | unsupported (.noEntry "extern/(internal/reflectlite.Value).Set.zeroValue")
    if fl / ReflectliteValue.flagAddr % 2 == 0 then unsupported (.noEntry "extern/(internal/reflectlite.Value).Set.unaddressable")
    let val ← loadVar src b
    if ← Rtype.directlyAssignable dst src then storeVar dst a val
    else if ← Rtype.implements dst src then
      if (← Rtype.kind src) == 20 then
        match val with
        | .nilIface => unsupported (.noEntry "extern/reflectlite: a nil value of one interface type handed on as a value of another")
        | _ => storeVar dst a val
      else storeVar dst a (.iface src val)
    else panicString ("reflectlite.Set: value of type " ++ (← Rtype.spelt src) ++ " is not assignable to type " ++ (← Rtype.spelt dst))
    pure (.tuple #[])) := rfl

section
variable {S : St} {K : D → St → Prop}
theorem unpackPEr (a : Addr) (w : World) : (ReflectliteValue.unpack (.iface 50 (.pointer (some a)))).run Tryz.prog w = .ok (.agg #[tyV 50, .pointer (some ⟨w.heap.size, 0, none⟩), .int .u64 150]) (w.alloc (.cells #[.pointer (some a)] 50)) := by kernel_rfl
theorem rlValueOfPEr {k off : Nat} (h : K (.agg [.v (tyV 50), .loc S.next 0, .v (.int .u64 150)]) (S.add (.box 50 [.loc k off]))) : DCalls Tryz.prog 35 [.ifc 50 (.loc k off)] S K :=
  dext (e := fun args => ReflectliteValue.unpack (args.getD 0 (.tuple #[]))) Tryz.func35 (by kernel_rfl) (by kernel_rfl) (by kernel_rfl) (by kernel_rfl) fun base η w vs hM hr => by
    simp only [RepL, Rep] at hr
    obtain ⟨_, _, rfl, ⟨_, rfl, b, hb, rfl⟩, rfl⟩ := hr
    have G := goes_name hM (.box 50 [.loc k off]) #[.pointer (some ⟨b, off, none⟩)] 50 (.inl ⟨_, [.pointer (some ⟨b, off, none⟩)], rfl, rfl, by simp only [RepL, Rep]; exact ⟨_, _, rfl, ⟨b, hb, rfl⟩, rfl⟩, fun x hx => by rw [List.mem_singleton] at hx; subst hx; rfl⟩)
    refine ⟨_, _, _, _, _, unpackPEr _ w, h, ?_, G⟩
    simp only [Rep, RepL]
    exact ⟨[_, _, _], rfl, ⟨_, _, rfl, rfl, _, _, rfl, ⟨w.heap.size, by simp only [Names.add, ↓reduceIte], rfl⟩, _, _, rfl, rfl, rfl⟩, fun x hx => by simp only [List.mem_cons, List.not_mem_nil, or_false] at hx; rcases hx with rfl | rfl | rfl <;> rfl⟩
theorem typePEr (a : Addr) (w : World) : (ReflectliteValue.methodAny (ReflectliteValue.valueError "reflectlite.Value.Type" 0) (fun t _ _ _ => ReflectliteType.toType t) #[.agg #[tyV 50, .pointer (some a), .int .u64 150]]).run Tryz.prog w = .ok (.iface 94 (.agg #[tyV 50])) w := by kernel_rfl
theorem rlTypePEr {k off : Nat} (h : K (rtD 50) S) : DCalls Tryz.prog 36 [.agg [.v (tyV 50), .loc k off, .v (.int .u64 150)]] S K :=
  dext (e := ReflectliteValue.methodAny (ReflectliteValue.valueError "reflectlite.Value.Type" 0) (fun t _ _ _ => ReflectliteType.toType t)) Tryz.func36 (by kernel_rfl) (by kernel_rfl) (by kernel_rfl) (by kernel_rfl) fun base η w vs hM hr => by
    simp only [RepL, Rep] at hr
    obtain ⟨_, _, rfl, ⟨_, rfl, ⟨_, _, rfl, rfl, _, _, rfl, ⟨b, hb, rfl⟩, _, _, rfl, rfl, rfl⟩, _⟩, rfl⟩ := hr
    exact ⟨_, S, η, _, w, typePEr _ w, h, (rep_val_iff (d := rtD 50) rfl).2 rfl, Goes.refl hM⟩
theorem partsPEr (a : Addr) (w : World) : (ReflectliteValue.parts (.agg #[tyV 50, .pointer (some a), .int .u64 150])).run Tryz.prog w = .ok (some (50, a, 150)) w := by kernel_rfl
theorem rlIsNilPEr {b k off : Nat} (hb : S.ob b = some (.box 50 [.loc k off])) (h : K (.v (.bool false)) S) : DCalls Tryz.prog 37 [.agg [.v (tyV 50), .loc b 0, .v (.int .u64 150)]] S K :=
  dext (e := ReflectliteValue.method (ReflectliteValue.valueError "reflectlite.Value.IsNil" 0) ReflectliteValue.isNil) Tryz.func37 (by kernel_rfl) (by kernel_rfl) (by kernel_rfl) (by kernel_rfl) fun base η w vs hM hr => by
    simp only [RepL, Rep] at hr
    obtain ⟨_, _, rfl, ⟨_, rfl, ⟨_, _, rfl, rfl, _, _, rfl, ⟨q, hq, rfl⟩, _, _, rfl, rfl, rfl⟩, _⟩, rfl⟩ := hr
    obtain ⟨us, g1, g2, g3⟩ := hM.box b _ _ q hb hq
    simp only [RepL, Rep] at g2
    obtain ⟨_, _, rfl, ⟨p, hp, rfl⟩, rfl⟩ := g2
    have ha : w.cell? ⟨q, 0, none⟩ = some (.pointer (some ⟨p, off, none⟩)) := by simp [World.cell?, g1]
    refine ⟨_, S, η, .bool false, w, ?_, h, by simp only [Rep], Goes.refl hM⟩
    rw [rlm]
    simp only [Sem.run_bind, partsPEr, Result.andThen]
    simp [ReflectliteValue.isNil, loadVar, isAgg, underlying, Tryz.underlying50, ha, Result.andThen]
theorem elemOfPEr (w : World) : (Rtype.elem? 50).run Tryz.prog w = .ok (some 42) w := by kernel_rfl
theorem mkPEr (p : Addr) (w : World) : (ReflectliteValue.mk 42 p ReflectliteValue.flagAddr).run Tryz.prog w = .ok (.agg #[tyV 42, .pointer (some p), .int .u64 386]) w := by kernel_rfl
theorem rlElemPEr {b k off : Nat} (hb : S.ob b = some (.box 50 [.loc k off])) (h : K (.agg [.v (tyV 42), .loc k off, .v (.int .u64 386)]) S) : DCalls Tryz.prog 56 [.agg [.v (tyV 50), .loc b 0, .v (.int .u64 150)]] S K :=
  dext (e := ReflectliteValue.method (ReflectliteValue.valueError "reflectlite.Value.Elem" 0) ReflectliteValue.elem) Tryz.func56 (by kernel_rfl) (by kernel_rfl) (by kernel_rfl) (by kernel_rfl) fun base η w vs hM hr => by
    simp only [RepL, Rep] at hr
    obtain ⟨_, _, rfl, ⟨_, rfl, ⟨_, _, rfl, rfl, _, _, rfl, ⟨q, hq, rfl⟩, _, _, rfl, rfl, rfl⟩, _⟩, rfl⟩ := hr
    obtain ⟨us, g1, g2, g3⟩ := hM.box b _ _ q hb hq
    simp only [RepL, Rep] at g2
    obtain ⟨_, _, rfl, ⟨p, hp, rfl⟩, rfl⟩ := g2
    have ha : w.cell? ⟨q, 0, none⟩ = some (.pointer (some ⟨p, off, none⟩)) := by simp [World.cell?, g1]
    refine ⟨_, S, η, .agg #[tyV 42, .pointer (some ⟨p, off, none⟩), .int .u64 386], w, ?_, h, ?_, Goes.refl hM⟩
    · rw [rlm]
      simp only [Sem.run_bind, partsPEr, Result.andThen]
      simp [ReflectliteValue.elem, loadVar, isAgg, underlying, Tryz.underlying50, ha, Result.andThen, elemOfPEr, mkPEr]
    · simp only [Rep, RepL]
      exact ⟨[_, _, _], rfl, ⟨_, _, rfl, rfl, _, _, rfl, ⟨p, hp, rfl⟩, _, _, rfl, rfl, rfl⟩, fun x hx => by simp only [List.mem_cons, List.not_mem_nil, or_false] at hx; rcases hx with rfl | rfl | rfl <;> rfl⟩
theorem methKindPEr : DMeth Tryz.prog 94 (tyD 50) "Kind" 105 (.v (tyV 50)) := dmeth_pure rfl rfl fun w => by kernel_rfl
theorem methKindEr : DMeth Tryz.prog 94 (tyD 42) "Kind" 105 (.v (tyV 42)) := dmeth_pure rfl rfl fun w => by kernel_rfl
theorem rlKindPEr (h : K (.v (.int .u8 22)) S) : DCalls Tryz.prog 105 [.v (tyV 50)] S K :=
  dext_pure (e := ReflectliteType.abiMethod fun t => do pure (.int .u8 (← Rtype.kind t))) Tryz.func105 (by kernel_rfl) (by kernel_rfl) (by kernel_rfl) (by kernel_rfl) (r := .int .u8 22) rfl (fun w => by kernel_rfl) rfl h
theorem rlKindEr (h : K (.v (.int .u8 2)) S) : DCalls Tryz.prog 105 [.v (tyV 42)] S K :=
  dext_pure (e := ReflectliteType.abiMethod fun t => do pure (.int .u8 (← Rtype.kind t))) Tryz.func105 (by kernel_rfl) (by kernel_rfl) (by kernel_rfl) (by kernel_rfl) (r := .int .u8 2) rfl (fun w => by kernel_rfl) rfl h
theorem methElemPEr : DMeth Tryz.prog 94 (tyD 50) "Elem" 116 (tyD 50) := dmeth_pure rfl rfl fun w => by kernel_rfl
theorem rlTElemPEr (h : K (rtD 42) S) : DCalls Tryz.prog 116 [tyD 50] S K :=
  dext_pure (e := ReflectliteType.method ReflectliteType.elem) Tryz.func116 (by kernel_rfl) (by kernel_rfl) (by kernel_rfl) (by kernel_rfl) (r := .iface 94 (.agg #[tyV 42])) rfl (fun w => by kernel_rfl) rfl h
theorem methImplEr : DMeth Tryz.prog 94 (tyD 42) "Implements" 117 (tyD 42) := dmeth_pure rfl rfl fun w => by kernel_rfl
theorem rlImplEr (h : K (.v (.bool true)) S) : DCalls Tryz.prog 117 [tyD 42, rtD 31] S K :=
  dext_pure (e := ReflectliteType.relation "Implements" ReflectliteType.implements_) Tryz.func117 (by kernel_rfl) (by kernel_rfl) (by kernel_rfl) (by kernel_rfl) (r := .bool true) rfl (fun w => by kernel_rfl) rfl h
theorem methAsgEr : DMeth Tryz.prog 94 (tyD 42) "AssignableTo" 114 (tyD 42) := dmeth_pure rfl rfl fun w => by kernel_rfl
theorem rlAsgEr (h : K (.v (.bool true)) S) : DCalls Tryz.prog 114 [tyD 42, rtD 42] S K :=
  dext_pure (e := ReflectliteType.relation "AssignableTo" ReflectliteType.assignableTo) Tryz.func114 (by kernel_rfl) (by kernel_rfl) (by kernel_rfl) (by kernel_rfl) (r := .bool true) rfl (fun w => by kernel_rfl) rfl h
theorem typeOfEr (x : Value) (w : World) : (ReflectliteType.typeOf #[.iface 42 x]).run Tryz.prog w = .ok (.iface 94 (.agg #[tyV 42])) w := by kernel_rfl
theorem rlTypeOfEr {d : D} (h : K (rtD 42) S) : DCalls Tryz.prog 55 [.ifc 42 d] S K :=
  dext (e := ReflectliteType.typeOf) Tryz.func55 (by kernel_rfl) (by kernel_rfl) (by kernel_rfl) (by kernel_rfl) fun base η w vs hM hr => by
    simp only [RepL, Rep] at hr
    obtain ⟨_, _, rfl, ⟨x, rfl, _⟩, rfl⟩ := hr
    exact ⟨_, S, η, _, w, typeOfEr x w, h, (rep_val_iff (d := rtD 42) rfl).2 rfl, Goes.refl hM⟩
end

end Go.Proofs.YtbcabejdchkpmaaGreatDoor

namespace Go.Proofs.YtbcabejdchkpmaaGreatDoor
open Go.RowKit Go.Extern.Stop Go.Stop Go.Extern
abbrev erD (n : Int) : D := .ifc 42 (.v (.int .i64 n))
section
variable {P : Program} {S : St} {K : D → St → Prop}
end
section
variable {S : St} {K : D → St → Prop} {u : D}
end
theorem unpackEr (n : Int) (w : World) : (ReflectliteValue.unpack (.iface 42 (.int .i64 n))).run Tryz.prog w = .ok (.agg #[tyV 42, .pointer (some ⟨w.heap.size, 0, none⟩), .int .u64 130]) (w.alloc (.cells #[.int .i64 n] 42)) := by kernel_rfl
section
variable {S : St} {K : D → St → Prop}
theorem rlValueOfEr {n : Int} (h : K (.agg [.v (tyV 42), .loc S.next 0, .v (.int .u64 130)]) (S.add (.box 42 [.v (.int .i64 n)]))) : DCalls Tryz.prog 35 [erD n] S K :=
  dext (e := fun args => ReflectliteValue.unpack (args.getD 0 (.tuple #[]))) Tryz.func35 (by kernel_rfl) (by kernel_rfl) (by kernel_rfl) (by kernel_rfl) fun base η w vs hM hr => by
    simp only [RepL, Rep] at hr
    obtain ⟨_, _, rfl, ⟨_, rfl, rfl⟩, rfl⟩ := hr
    have G := goes_name hM (.box 42 [.v (.int .i64 n)]) #[.int .i64 n] 42 (.inl ⟨_, [.int .i64 n], rfl, rfl, by simp only [RepL, Rep]; exact ⟨_, _, rfl, rfl, rfl⟩, fun x hx => by rw [List.mem_singleton] at hx; subst hx; rfl⟩)
    refine ⟨_, _, _, _, _, unpackEr _ w, h, ?_, G⟩
    simp only [Rep, RepL]
    exact ⟨[_, _, _], rfl, ⟨_, _, rfl, rfl, _, _, rfl, ⟨w.heap.size, by simp only [Names.add, ↓reduceIte], rfl⟩, _, _, rfl, rfl, rfl⟩, fun x hx => by simp only [List.mem_cons, List.not_mem_nil, or_false] at hx; rcases hx with rfl | rfl | rfl <;> rfl⟩
end

theorem partsEra (a : Addr) (w : World) : (ReflectliteValue.parts (.agg #[tyV 42, .pointer (some a), .int .u64 386])).run Tryz.prog w = .ok (some (42, a, 386)) w := by kernel_rfl
theorem partsEr (a : Addr) (w : World) : (ReflectliteValue.parts (.agg #[tyV 42, .pointer (some a), .int .u64 130])).run Tryz.prog w = .ok (some (42, a, 130)) w := by kernel_rfl
theorem directEr (w : World) : (Rtype.directlyAssignable 42 42).run Tryz.prog w = .ok true w := by kernel_rfl
theorem sizeEr (w : World) : (sizeOf 42).run Tryz.prog w = .ok 1 w := by kernel_rfl
theorem setEr {b a : Nat} {x : Value} {n : Int} {W : World} (hb : W.heap[b]? = some (.cells [x].toArray 42 (0, 0))) (ha : W.cell? ⟨a, 0, none⟩ = some (.int .i64 n)) :
    (ReflectliteValue.set #[.agg #[tyV 42, .pointer (some ⟨b, 0, none⟩), .int .u64 386], .agg #[tyV 42, .pointer (some ⟨a, 0, none⟩), .int .u64 130]]).run Tryz.prog W = .ok (.tuple #[]) (W.setRow b [.int .i64 n].toArray) := by
  have q := run_storeCells_at Tryz.prog b 0 42 [.int .i64 n] 0 [x].toArray W hb (by simp) (by simp [Value.oneCell'])
  rw [rls]
  simp only [Sem.run_bind, partsEra, partsEr, Result.andThen]
  simp [ReflectliteValue.flagAddr, loadVar, isAgg, underlying, Tryz.underlying42, ha, Result.andThen, directEr, storeVar, sizeEr, Value.cells] at q ⊢
  simp [q]
theorem rlSetEr {S : St} {K : D → St → Prop} {a b : Nat} {d0 : D} {n : Int} (hb : S.ob b = some (.box 42 [d0])) (ha : S.ob a = some (.box 42 [.v (.int .i64 n)])) (h : K (.tup []) (S.set b (.box 42 [.v (.int .i64 n)]))) :
    DCalls Tryz.prog 57 [.agg [.v (tyV 42), .loc b 0, .v (.int .u64 386)], .agg [.v (tyV 42), .loc a 0, .v (.int .u64 130)]] S K :=
  dext (e := ReflectliteValue.set) Tryz.func57 (by kernel_rfl) (by kernel_rfl) (by kernel_rfl) (by kernel_rfl) fun base η w vs hM hr => by
    simp only [RepL, Rep] at hr
    obtain ⟨_, _, rfl, ⟨_, rfl, ⟨_, _, rfl, rfl, _, _, rfl, ⟨q, hq, rfl⟩, _, _, rfl, rfl, rfl⟩, _⟩, _, _, rfl, ⟨_, rfl, ⟨_, _, rfl, rfl, _, _, rfl, ⟨p, hp, rfl⟩, _, _, rfl, rfl, rfl⟩, _⟩, rfl⟩ := hr
    obtain ⟨us, g1, g2, g3⟩ := hM.box b _ _ q hb hq
    obtain ⟨us', k1, k2, k3⟩ := hM.box a _ _ p ha hp
    simp only [RepL] at g2
    obtain ⟨x, _, rfl, hx, rfl⟩ := g2
    simp only [RepL] at k2
    obtain ⟨y, _, rfl, hy, rfl⟩ := k2
    have hy0 := hy
    simp only [Rep] at hy
    subst hy
    have hc : w.cell? ⟨p, 0, none⟩ = some (.int .i64 n) := by simp [World.cell?, k1]
    have G := goes_set hM (cs' := [.v (.int .i64 n)]) (vs' := [_]) hb hq rfl (by simp only [RepL]; exact ⟨_, _, rfl, hy0, rfl⟩) k3
    exact ⟨_, _, _, _, _, setEr g1 hc, h, by simp only [Rep, RepL]; exact ⟨[], rfl, rfl⟩, G⟩

end Go.Proofs.YtbcabejdchkpmaaGreatDoor

namespace Go.Proofs.YtbcabejdchkpmaaGreatDoor
open Go.RowKit
theorem bnil_eq0 (k : Nat) : dbin Tryz.prog .eql 31 (.tmp k) (.const .nilIface) (.v .nilIface) (.v .nilIface) = some (True, .v (.bool true)) := by kernel_rfl
set_option maxRecDepth 200000 in
set_option maxHeartbeats 4000000 in
theorem as0Walk {S : St} {n : Int} {x0 : D} {kb kc : Nat} {K : D → St → Prop} (hk : S.ob kc = some (.box 42 [x0])) (hb : S.ob kb = some (.box 50 [.loc kc 0]))
    (h : ∀ T, S.next ≤ T.next → T.WF → (∀ j o, j ≠ kc → S.ob j = some o → T.ob j = some o) → T.ob kc = some (.box 42 [.v (.int .i64 n)]) → K (.v (.bool true)) T) :
    DCalls Tryz.prog 38 [erD n, .ifc 50 (.loc kc 0), .agg [.v (tyV 50), .loc kb 0, .v (.int .u64 150)], rtD 42] S K := by
  refine dcalls_inline mixed Tryz.func38 rfl (fun _ _ => by kernel_rfl) (rs := [.tmp 8]) rfl (by kernel_rfl) (fun hS => ?_)
  (simp (disch := first | decide | omega | (simp only [nx]; first | done | omega)) only [go_sem]; (repeat with_reducible refine aI ?_))
  (refine dloop_st (fun t => List.contains [0, 8, 9, 10, 11, 12, 14, 15, 16, 17, 18, 19, 20, 21, 22, 23, 24, 25, 26, 27, 28, 29, 30, 31, 32, 33, 34, 35, 36, 37, 38, 39, 40, 41, 42, 43, 44, 45, 46, 47, 48, 49, 50, 51, 52, 53, 54, 55, 56, 57, 58, 59, 60, 61] t) (by kernel_rfl) ?_ (0) (fun i f => i ≤ 0 ∧ f 0 = erD n ∧ f 8 = .v (.bool false)) ?_ ?_; (exact (by (repeat' first | assumption | refine St.WF.leave ?_ _ | refine St.WF.add ?_ _ | refine St.WF.set ?_ ?_ _ | refine St.WF.grow ?_ _ _ _ | refine St.WF.keep ?_ ?_ | (first | omega | (simp only [RowOk.lo, nx]; first | done | omega))))); (exact ⟨(by omega), (by (first | (simp (disch := first | decide | omega | (simp only [nx]; first | done | omega)) only [go_sem]; first | done | rfl) | rfl)), (by (first | (simp (disch := first | decide | omega | (simp only [nx]; first | done | omega)) only [go_sem]; first | done | rfl) | rfl))⟩); intro i g tn hn hT hg hI; obtain ⟨le, q0, q8⟩ := hI; have q1 := hg 1 rfl; have q3 := hg 3 rfl; have q6 := hg 6 rfl; simp (disch := first | decide | omega | (simp only [nx]; first | done | omega)) only [go_sem] at q1 q3 q6; clear hg; have hn' := hn; try simp only [add_next, set_next, grow_next, leave_next, drop_next] at hn')
  have hB : ∀ j o, S.ob j = some o → (St.mk tn (S.add (.box 70 [.v (tyV 50), .loc kb 0, .v (.int .u64 150)])).ob).ob j = some o := fun j o ho => by
    have hkl := hS.lt ho
    show (if j = S.next then _ else S.ob j) = _
    rw [if_neg (by omega), ho]
  (simp (disch := first | decide | omega | (simp only [nx]; first | done | omega)) only [go_sem, q0, q1, q3, q6]; (repeat with_reducible refine aI ?_))
  refine rlTypeOfEr ?_
  (simp (disch := first | decide | omega | (simp only [nx]; first | done | omega)) only [go_sem, q0, q1, q3, q6]; (repeat with_reducible refine aI ?_))
  refine dinvoke_mk methAsgEr (rlAsgEr ?_)
  (simp (disch := first | decide | omega | (simp only [nx]; first | done | omega)) only [go_sem, q0, q1, q3, q6]; (repeat with_reducible refine aI ?_))
  refine rlElemPEr (hB _ _ hb) ?_
  (simp (disch := first | decide | omega | (simp only [nx]; first | done | omega)) only [go_sem, q0, q1, q3, q6]; (repeat with_reducible refine aI ?_))
  refine rlValueOfEr ?_
  (simp (disch := first | decide | omega | (simp only [nx]; first | done | omega)) only [go_sem, q0, q1, q3, q6]; (repeat with_reducible refine aI ?_))
  have hkc := hS.lt hk
  have hkn : kc ≠ tn := by omega
  refine rlSetEr (d0 := x0) (n := n) ?_ ?_ ?_
  · show (if kc = tn then _ else _) = _
    rw [if_neg hkn]; exact hB _ _ hk
  · show (if tn = tn then _ else _) = _
    rw [if_pos rfl]
  (simp (disch := first | decide | omega | (simp only [nx]; first | done | omega)) only [go_sem, q0, q1, q3, q6]; (repeat with_reducible refine aI ?_))
  refine h _ ?_ ?_ (fun j o hj ho => ?_) ?_
  · show S.next ≤ tn + 1
    omega
  · exact (by (repeat' first | assumption | refine St.WF.leave ?_ _ | refine St.WF.add ?_ _ | refine St.WF.set ?_ ?_ _ | refine St.WF.grow ?_ _ _ _ | refine St.WF.keep ?_ ?_ | (first | omega | (simp only [RowOk.lo, nx]; first | done | omega))))
  · show (if j = kc then _ else if j = tn then _ else _) = _
    have := hS.lt ho
    rw [if_neg hj, if_neg (by omega)]; exact hB _ _ ho
  · show (if kc = kc then _ else _) = _
    rw [if_pos rfl]
set_option maxRecDepth 200000 in
set_option maxHeartbeats 4000000 in
theorem as0 {S : St} {n : Int} {x0 : D} {kc : Nat} {K : D → St → Prop} (hk : S.ob kc = some (.box 42 [x0]))
    (h : ∀ T, S.next ≤ T.next → T.WF → (∀ j o, j ≠ kc → S.ob j = some o → T.ob j = some o) → T.ob kc = some (.box 42 [.v (.int .i64 n)]) → K (.v (.bool true)) T) :
    DCalls Tryz.prog 20 [erD n, .ifc 50 (.loc kc 0)] S K := by
  refine dcalls_inline mixed Tryz.func20 rfl (fun _ _ => by kernel_rfl) (rs := [.tmp 4]) rfl (by kernel_rfl) (fun hS => ?_)
  unfold erD
  (simp (disch := first | decide | omega | (simp only [nx]; first | done | omega)) only [go_sem]; (repeat with_reducible refine aI ?_))
  refine rlValueOfPEr ?_
  (simp (disch := first | decide | omega | (simp only [nx]; first | done | omega)) only [go_sem]; (repeat with_reducible refine aI ?_))
  refine rlTypePEr ?_
  (simp (disch := first | decide | omega | (simp only [nx]; first | done | omega)) only [go_sem]; (repeat with_reducible refine aI ?_))
  have k22 : ((22 : Int) != 22) = false := by decide
  have k20 : ((2 : Int) != 20) = true := by decide
  refine dinvoke_mk methKindPEr (rlKindPEr ?_)
  (simp (disch := first | decide | omega | (simp only [nx]; first | done | omega)) only [go_sem, k22]; (repeat with_reducible refine aI ?_))
  refine rlIsNilPEr (k := kc) (off := 0) ?_ ?_
  · (first | (simp (disch := first | decide | omega | (simp only [nx]; first | done | omega)) only [go_sem]; first | done | rfl) | rfl)
  (simp (disch := first | decide | omega | (simp only [nx]; first | done | omega)) only [go_sem, k22]; (repeat with_reducible refine aI ?_))
  refine dinvoke_mk methElemPEr (rlTElemPEr ?_)
  (simp (disch := first | decide | omega | (simp only [nx]; first | done | omega)) only [go_sem]; (repeat with_reducible refine aI ?_))
  refine dinvoke_mk methKindEr (rlKindEr ?_)
  (simp (disch := first | decide | omega | (simp only [nx]; first | done | omega)) only [go_sem, k20]; (repeat with_reducible refine aI ?_))
  refine dinvoke_mk methImplEr (rlImplEr ?_)
  (simp (disch := first | decide | omega | (simp only [nx]; first | done | omega)) only [go_sem]; (repeat with_reducible refine aI ?_))
  have hkc := hS.lt hk
  have hB : ∀ j o, S.ob j = some o → (((S.add (.box 50 [.loc kc 0])).add (.box 70 [.v (.pointer none), .v (.pointer none), .v (.int .u64 0)])).set (S.next + 1) (.box 70 [.v (tyV 50), .loc S.next 0, .v (.int .u64 150)])).ob j = some o := fun j o ho => by
    have hkl := hS.lt ho
    show (if j = S.next + 1 then _ else if j = S.next + 1 then _ else if j = S.next then _ else S.ob j) = _
    rw [if_neg (by omega), if_neg (by omega), if_neg (by omega), ho]
  refine as0Walk (hB _ _ hk) (kb := S.next) ?_ fun T t1 t2 t3 t4 => ?_
  · (first | (simp (disch := first | decide | omega | (simp only [nx]; first | done | omega)) only [go_sem]; first | done | rfl) | rfl)
  (simp (disch := first | decide | omega | (simp only [nx]; first | done | omega)) only [go_sem]; (repeat with_reducible refine aI ?_))
  exact h T (by have : S.next + 1 + 1 ≤ T.next := t1; omega) t2 (fun j o hj ho => t3 j o hj (hB _ _ ho)) t4
theorem code0_nil : DPure Tryz.prog 8 [.v .nilIface] (.v (.int .i64 0)) := by
  refine dpure_of_dwp mixed Tryz.func8 rfl (fun _ _ => by kernel_rfl) (rs := [.tmp 2]) rfl (by kernel_rfl) trivial (fun S hS => ?_)
  (simp (disch := first | decide | omega | (simp only [nx]; first | done | omega)) only [go_sem, bnil_eq0]; (repeat with_reducible refine aI ?_))
  refine ⟨?_, (by (repeat' first | assumption | exact St.Sub.refl _ | exact RowOk.sub (by assumption) (by assumption) | refine St.Sub.trans ?_ (RowOk.sub (by assumption) (by assumption)) | refine St.Sub.add ?_ ?_ _ | refine St.Sub.set ?_ ?_ ?_ _ | refine St.Sub.keep ?_ ?_ | refine St.WF.leave ?_ _ | refine St.WF.add ?_ _ | refine St.WF.set ?_ ?_ _ | refine St.WF.grow ?_ _ _ _ | refine St.WF.keep ?_ ?_ | (first | omega | (simp only [RowOk.lo, nx]; first | done | omega))))⟩
  rfl
theorem code0_er (n : Int) : DPure Tryz.prog 8 [erD n] (.v (.int .i64 n)) := by
  refine dpure_of_dwp mixed Tryz.func8 rfl (fun _ _ => by kernel_rfl) (rs := [.tmp 2]) rfl (by kernel_rfl) trivial (fun S hS => ?_)
  unfold erD
  (simp (disch := first | decide | omega | (simp only [nx]; first | done | omega)) only [go_sem]; (repeat with_reducible refine aI ?_))
  refine as0 (x0 := .v (.int .i64 0)) ?_ fun T t1 t2 t3 t4 => ?_
  · show (if S.next = S.next then _ else _) = _
    rw [if_pos rfl]
  (simp (disch := first | decide | omega | (simp only [nx]; first | done | omega)) only [go_sem, t4]; (repeat with_reducible refine aI ?_))
  have hsub : S.Sub T := ⟨by have : S.next + 1 ≤ T.next := t1; omega, fun j o ho => t3 j o (by have := hS.lt ho; omega) (by have := hS.lt ho; show (if j = S.next then _ else _) = _; rw [if_neg (by omega), ho])⟩
  refine ⟨?_, (by (repeat' first | assumption | exact St.Sub.refl _ | exact RowOk.sub (by assumption) (by assumption) | refine St.Sub.trans ?_ (RowOk.sub (by assumption) (by assumption)) | refine St.Sub.add ?_ ?_ _ | refine St.Sub.set ?_ ?_ ?_ _ | refine St.Sub.keep ?_ ?_ | refine St.WF.leave ?_ _ | refine St.WF.add ?_ _ | refine St.WF.set ?_ ?_ _ | refine St.WF.grow ?_ _ _ _ | refine St.WF.keep ?_ ?_ | (first | omega | (simp only [RowOk.lo, nx]; first | done | omega))))⟩
  rfl
end Go.Proofs.YtbcabejdchkpmaaGreatDoor

namespace Go.Proofs.YtbcabejdchkpmaaGreatDoor
open Go.RowKit
theorem code_errO (c : Nat) : DPure Tryz.prog 8 [errO c] (.v (.int .i64 ((c : Nat) : Int))) := by
  unfold errO
  by_cases h : c = 0
  · subst h; exact code0_nil
  · rw [if_neg h]; exact code0_er _
end Go.Proofs.YtbcabejdchkpmaaGreatDoor

namespace Go.Proofs.YtbcabejdchkpmaaGreatDoor
open Go.RowKit
section
set_option maxRecDepth 200000
set_option maxHeartbeats 16000000
theorem valRead_r (v : DVal) {S : St} {k : Nat} {L rest : List UInt8} {i : Nat} (hr : rightV 5 v = true) (ho : okV v) (hk : k < S.next) (hR : RAt k L i S) (hL : L.length ≤ 1099511627776) (hi : i ≤ L.length) (hb : L.drop i = bytesOfV v ++ rest) :
    DCalls Tryz.prog 25 [.loc k 0] S fun d T => d = encV v ∧ RAt k L (i + (bytesOfV v).length) T ∧ RFr k S T := by
  have hd5 : v.depth ≤ 5 := by
    have := right_soundV 5 v v.depth (Nat.le_refl _)
    rw [hr] at this
    have := ((Bool.and_eq_true _ _).mp this.symm).1
    exact of_decide_eq_true this
  refine dcalls_inline mixed Tryz.func25 rfl (fun _ _ => by kernel_rfl) (rs := [.cell 2 26]) rfl (by kernel_rfl) (fun hS => ?_)
  (simp (disch := first | decide | omega | (simp only [nx]; first | done | omega)) only [go_sem]; (repeat with_reducible refine aI ?_))
  refine (vread_r v.depth v (Nat.le_refl _) (deep := 5) hd5 (by omega) (RV.of_right hr) ho (by show k < S.next + 1; omega) (hR.keep (add_keep hS _)) hL hi hb).wf.mono ?_
  rintro _ T ⟨⟨rfl, h1, hF⟩, hT⟩
  have z := hF.box S.next _ _ (by omega) (add_eq (S := S))
  (simp (disch := first | decide | omega | (simp only [nx]; first | done | omega)) only [go_sem, z]; (repeat with_reducible refine aI ?_))
  refine ⟨h1.obk (set_ne (by omega)) rfl, ⟨by have := hF.next; exact Nat.le_trans (Nat.le_succ _) this, fun j o hj e => ?_⟩⟩
  have := hS.lt e
  exact (set_ne (by omega)).trans (hF.ob j o hj (add_keep hS _ j o e))
end
end Go.Proofs.YtbcabejdchkpmaaGreatDoor

namespace Go.Proofs.YtbcabejdchkpmaaGreatDoor
open Go.RowKit
theorem u8ne (x y : UInt8) : ((x.toNat : Int) != (y.toNat : Int)) = !decide (x = y) := by
  by_cases h : x = y
  · subst h; simp
  · have : ¬ ((x.toNat : Int) = (y.toNat : Int)) := fun e => h (UInt8.toNat_inj.1 (by omega))
    simp [h, this, bne]
set_option maxRecDepth 200000 in
set_option maxHeartbeats 8000000 in
theorem bytesEq_d (own own2 : Own) (p q : List UInt8) (hp : p.length ≤ 1000000) (hq : q.length ≤ 1000000) : DPure Tryz.prog 11 [.sl own (p.map bD), .sl own2 (q.map bD)] (.v (.bool (decide (p = q)))) := by
  refine dpure_of_dwp mixed Tryz.func11 rfl (fun _ _ => by kernel_rfl) (rs := [.tmp 4]) rfl (by kernel_rfl) trivial (fun S hS => ?_)
  by_cases hl : p.length = q.length
  · have b0 : ((p.length : Int) != (q.length : Int)) = false := by simp [hl]
    (simp (disch := first | decide | omega | (simp only [nx]; first | done | omega)) only [go_sem, b0]; (repeat with_reducible refine aI ?_))
    (refine dloop_st (fun t => List.contains [4, 5, 11, 12, 13, 14, 15, 16, 17, 18, 19, 20, 21, 22, 23, 24, 25] t) (by kernel_rfl) ?_ (p.length) (fun i f => i ≤ p.length ∧ f 5 = .v (.int .i64 (i : Nat)) ∧ (∀ j, j < i → p[j]? = q[j]?)) ?_ ?_; (exact (by (repeat' first | assumption | refine St.WF.leave ?_ _ | refine St.WF.add ?_ _ | refine St.WF.set ?_ ?_ _ | refine St.WF.grow ?_ _ _ _ | refine St.WF.keep ?_ ?_ | (first | omega | (simp only [RowOk.lo, nx]; first | done | omega))))); (exact ⟨(by omega), (by (first | (simp (disch := first | decide | omega | (simp only [nx]; first | done | omega)) only [go_sem]; first | done | rfl) | rfl)), (fun j hj => by omega)⟩); intro i g tn hn hT hg hI; obtain ⟨le, q5, hsame⟩ := hI; have q0 := hg 0 rfl; have q1 := hg 1 rfl; simp (disch := first | decide | omega | (simp only [nx]; first | done | omega)) only [go_sem] at q0 q1; clear hg; have hn' := hn; try simp only [add_next, set_next, grow_next, leave_next, drop_next] at hn')
    by_cases hlt : i < p.length
    · have b1 : decide ((i : Int) < (p.length : Int)) = true := by simp; omega
      have w1 : IntKind.i64.wrap ((i : Int) + 1) = ((i + 1 : Nat) : Int) := IntWalk.i64_in _ ⟨by omega, by omega⟩
      have hlt2 : i < q.length := by omega
      by_cases hx : p[i] = q[i]
      · have b2 : (!decide (p[i] = q[i])) = false := by simp [hx]
        (simp (disch := first | decide | omega | (simp only [nx]; first | done | omega)) only [go_sem, q0, q1, q5, b1, w1]; (repeat with_reducible refine aI ?_))
        refine ddraw_mk 9 (by kernel_rfl) ?_
        (simp (disch := first | decide | omega | (simp only [nx]; first | done | omega)) only [go_sem, q0, q1, q5, b1, b2, w1, bD_eq, u8ne]; (repeat with_reducible refine aI ?_))
        (refine ⟨by omega, (by (repeat' first | assumption | exact St.Sub.refl _ | exact RowOk.sub (by assumption) (by assumption) | refine St.Sub.trans ?_ (RowOk.sub (by assumption) (by assumption)) | refine St.Sub.add ?_ ?_ _ | refine St.Sub.set ?_ ?_ ?_ _ | refine St.Sub.keep ?_ ?_ | refine St.WF.leave ?_ _ | refine St.WF.add ?_ _ | refine St.WF.set ?_ ?_ _ | refine St.WF.grow ?_ _ _ _ | refine St.WF.keep ?_ ?_ | (first | omega | (simp only [RowOk.lo, nx]; first | done | omega)))), ?_⟩; refine ⟨by omega, ?_, ?_⟩; all_goals (try (first | (simp (disch := first | decide | omega | (simp only [nx]; first | done | omega)) only [go_sem, w1]; first | done | rfl) | rfl)))
        intro j hj
        by_cases e : j = i
        · subst e; rw [List.getElem?_eq_getElem hlt, List.getElem?_eq_getElem hlt2, hx]
        · exact hsame j (by omega)
      · have b2 : (!decide (p[i] = q[i])) = true := by simp [hx]
        (simp (disch := first | decide | omega | (simp only [nx]; first | done | omega)) only [go_sem, q0, q1, q5, b1]; (repeat with_reducible refine aI ?_))
        refine ddraw_mk 9 (by kernel_rfl) ?_
        (simp (disch := first | decide | omega | (simp only [nx]; first | done | omega)) only [go_sem, q0, q1, q5, b1, b2, bD_eq, u8ne]; (repeat with_reducible refine aI ?_))
        refine ⟨?_, (by (repeat' first | assumption | exact St.Sub.refl _ | exact RowOk.sub (by assumption) (by assumption) | refine St.Sub.trans ?_ (RowOk.sub (by assumption) (by assumption)) | refine St.Sub.add ?_ ?_ _ | refine St.Sub.set ?_ ?_ ?_ _ | refine St.Sub.keep ?_ ?_ | refine St.WF.leave ?_ _ | refine St.WF.add ?_ _ | refine St.WF.set ?_ ?_ _ | refine St.WF.grow ?_ _ _ _ | refine St.WF.keep ?_ ?_ | (first | omega | (simp only [RowOk.lo, nx]; first | done | omega))))⟩
        rw [decide_eq_false]
        · rfl
        · intro e; subst e; exact hx rfl
    · have b1 : decide ((i : Int) < (p.length : Int)) = false := by simp; omega
      (simp (disch := first | decide | omega | (simp only [nx]; first | done | omega)) only [go_sem, q0, q1, q5, b1]; (repeat with_reducible refine aI ?_))
      refine ⟨?_, (by (repeat' first | assumption | exact St.Sub.refl _ | exact RowOk.sub (by assumption) (by assumption) | refine St.Sub.trans ?_ (RowOk.sub (by assumption) (by assumption)) | refine St.Sub.add ?_ ?_ _ | refine St.Sub.set ?_ ?_ ?_ _ | refine St.Sub.keep ?_ ?_ | refine St.WF.leave ?_ _ | refine St.WF.add ?_ _ | refine St.WF.set ?_ ?_ _ | refine St.WF.grow ?_ _ _ _ | refine St.WF.keep ?_ ?_ | (first | omega | (simp only [RowOk.lo, nx]; first | done | omega))))⟩
      rw [decide_eq_true]
      · rfl
      · refine List.ext_getElem? fun j => ?_
        by_cases hj : j < i
        · exact hsame j hj
        · rw [List.getElem?_eq_none (by omega), List.getElem?_eq_none (by omega)]
  · have b0 : ((p.length : Int) != (q.length : Int)) = true := by simp; omega
    (simp (disch := first | decide | omega | (simp only [nx]; first | done | omega)) only [go_sem, b0]; (repeat with_reducible refine aI ?_))
    refine ⟨?_, (by (repeat' first | assumption | exact St.Sub.refl _ | exact RowOk.sub (by assumption) (by assumption) | refine St.Sub.trans ?_ (RowOk.sub (by assumption) (by assumption)) | refine St.Sub.add ?_ ?_ _ | refine St.Sub.set ?_ ?_ ?_ _ | refine St.Sub.keep ?_ ?_ | refine St.WF.leave ?_ _ | refine St.WF.add ?_ _ | refine St.WF.set ?_ ?_ _ | refine St.WF.grow ?_ _ _ _ | refine St.WF.keep ?_ ?_ | (first | omega | (simp only [RowOk.lo, nx]; first | done | omega))))⟩
    rw [decide_eq_false]
    · rfl
    · intro e; subst e; exact hl rfl
end Go.Proofs.YtbcabejdchkpmaaGreatDoor

namespace Go.Proofs.YtbcabejdchkpmaaGreatDoor
open Go.RowKit
def gtN (l : List Str) (x : Str) : Nat := l.findIdx fun s => sLt x s
def gtI (l : List Str) (x : Str) : Int := if gtN l x < l.length then (gtN l x : Int) else -1
theorem getD_strs {l : List Str} {zs : List D} {i : Nat} (h : i < l.length) : (flat (l.map strD) ++ zs).getD i undefD = .v (sv l[i]) := by
  have : flat (l.map strD) = l.map strD := flat_vs sv l
  rw [this, List.getD_eq_getElem?_getD, List.getElem?_append_left (by simpa using h), List.getElem?_map, List.getElem?_eq_getElem h]
  rfl
theorem len_strs (l : List Str) (zs : List D) : (flat (l.map strD) ++ zs).length = l.length + zs.length := by
  have : flat (l.map strD) = l.map strD := flat_vs sv l
  rw [this, List.length_append, List.length_map]
theorem gt_sLt (a b : Str) : (!(Op.bytesLess a b || a == b)) = sLt b a := by
  have := leq_not a b
  rw [this]; simp
set_option maxRecDepth 200000 in
set_option maxHeartbeats 4000000 in
theorem idxGt_w {S : St} {k c t : Nat} {zs : List D} {K : D → St → Prop} (l : List Str) (x : Str) (hn : l.length ≤ 1000000) (hk : S.ob k = some (ownOb 9 (l.map strD) zs c)) (hc : l.length ≤ c) (ht : S.ob t = some (.box 9 [.v (sv x)])) (h : K (.v (.int .i64 (gtI l x))) S) :
    DCalls Tryz.prog 46 [.win k 0 l.length c, .fn (.func 47) [] [.loc t 0]] S K := by
  refine dcalls_inline mixed Tryz.func46 rfl (fun _ _ => by kernel_rfl) (rs := [.tmp 4]) rfl (by kernel_rfl) (fun hS => ?_)
  (simp (disch := first | decide | omega | (simp only [nx]; first | done | omega)) only [go_sem]; (repeat with_reducible refine aI ?_))
  refine dloop_up (fun t => List.contains [4, 5, 8, 9, 10, 11, 12, 13, 14, 15, 16, 17, 18] t) (by kernel_rfl) hS l.length (fun i g T => i ≤ l.length ∧ g 8 = .v (.int .i64 ((i : Nat) : Int)) ∧ (∀ (r : Nat) (hr : r < l.length), r < i → sLt x l[r] = false) ∧ T = S) ⟨by omega, by (first | (simp (disch := first | decide | omega | (simp only [nx]; first | done | omega)) only [go_sem]; first | done | rfl) | rfl), fun r _ h => by omega, rfl⟩ ?_
  rintro i g T hT hg ⟨le, q8, hno, rfl⟩
  have q0 := hg 0 rfl
  have q1 := hg 1 rfl
  have q7 := hg 7 rfl
  simp (disch := first | decide | omega | (simp only [nx]; first | done | omega)) only [go_sem] at q0 q1 q7
  clear hg
  by_cases hlt : i < l.length
  · have b1 : decide ((i : Int) < (l.length : Int)) = true := by simp; omega
    have w1 : IntKind.i64.wrap ((i : Int) + 1) = ((i + 1 : Nat) : Int) := IntWalk.i64_in _ ⟨by omega, by omega⟩
    have hk' := hk
    rw [ownOb_box (by omega)] at hk'
    have hg1 := getD_strs (zs := zs) hlt
    have hl1 := len_strs l zs
    (simp (disch := first | decide | omega | (simp only [nx]; first | done | omega)) only [go_sem, q0, q1, q7, q8, b1, hk', Nat.mul_one, hg1, hl1]; (repeat with_reducible refine aI ?_))
    refine dcalls_inline mixed Tryz.func47 rfl (fun _ _ => by kernel_rfl) (rs := [.tmp 3]) rfl (by kernel_rfl) (fun hS => ?_)
    (simp (disch := first | decide | omega | (simp only [nx]; first | done | omega)) only [go_sem, ht]; (repeat with_reducible refine aI ?_))
    cases hx : sLt x l[i]
    · have b2 : (!(Op.bytesLess l[i] x || l[i] == x)) = false := by rw [gt_sLt, hx]
      (simp (disch := first | decide | omega | (simp only [nx]; first | done | omega)) only [go_sem, b2, q8, w1]; (repeat with_reducible refine aI ?_))
      refine ⟨hlt, T.ob, fun _ _ h => h, by omega, by (first | (simp (disch := first | decide | omega | (simp only [nx]; first | done | omega)) only [go_sem]; first | done | rfl) | rfl), fun r hr hri => ?_, rfl⟩
      by_cases e : r = i
      · subst e; exact hx
      · exact hno r hr (by omega)
    · have b2 : (!(Op.bytesLess l[i] x || l[i] == x)) = true := by rw [gt_sLt, hx]
      (simp (disch := first | decide | omega | (simp only [nx]; first | done | omega)) only [go_sem, b2]; (repeat with_reducible refine aI ?_))
      have e1 : gtN l x = i := (List.findIdx_eq hlt).2 ⟨hx, fun j hj => hno j (by omega) hj⟩
      rw [gtI, e1, if_pos hlt] at h
      exact h
  · have b1 : decide ((i : Int) < (l.length : Int)) = false := by simp; omega
    (simp (disch := first | decide | omega | (simp only [nx]; first | done | omega)) only [go_sem, q0, q1, q7, q8, b1]; (repeat with_reducible refine aI ?_))
    have e1 : gtN l x = l.length := List.findIdx_eq_length.2 fun y hy => by
      obtain ⟨j, hj, rfl⟩ := List.getElem_of_mem hy
      exact hno j hj (by omega)
    rw [gtI, e1, if_neg (by omega)] at h
    exact h
end Go.Proofs.YtbcabejdchkpmaaGreatDoor

namespace Go.Proofs.YtbcabejdchkpmaaGreatDoor
open Go.RowKit
def DVal.ofFields (v : DVal) (ns : List Str) (ps : List DVal) : DVal := .mk v.kind v.n v.s ns v.ids ps
def atN (l : List Str) (x : Str) : Nat := gtN l x
def withV (v : DVal) (x : Str) (p : DVal) : DVal :=
  if wholeB v = false then v
  else if x ∈ v.names then v.ofFields v.names (v.parts.set (ixN v.names x) p)
  else v.ofFields (v.names.take (atN v.names x) ++ [x] ++ v.names.drop (atN v.names x)) (v.parts.take (atN v.names x) ++ [p] ++ v.parts.drop (atN v.names x))
set_option maxRecDepth 200000 in
set_option maxHeartbeats 8000000 in
theorem with_d (v p : DVal) (x : Str) (hv : v.weight ≤ 100000) (hp : p.weight ≤ 100000) (hx : x.length ≤ maxLen) : DPure Tryz.prog 27 [encV v, .v (sv x), encV p] (encV (withV v x p)) := fun S => by
  refine dcalls_of_dwp mixed Tryz.func27 rfl (fun _ _ => by kernel_rfl) (rs := [.cell 6 26]) rfl (by kernel_rfl) (fun hS => ?_)
  (simp (disch := first | decide | omega | (simp only [nx]; first | done | omega)) only [go_sem]; (repeat with_reducible refine aI ?_))
  refine copy_o v (by omega) fun T a b c ca cb cc zn zi zp hs hT ha hb hc hO => ?_
  have hsn := hs.next
  simp only [add_next] at hsn ha hb hc
  have hst : S.Sub T := St.Sub.trans (((((St.Sub.refl S).add hS _).add hS _).add hS _).add hS _) hs
  have u3 : T.ob S.next = some (.box 26 (encV v).cells) := hs.ob _ _ (by (first | (simp (disch := first | decide | omega | (simp only [nx]; first | done | omega)) only [go_sem]; first | done | rfl) | rfl))
  have u4 : T.ob (S.next + 1) = some (.box 9 [.v (sv x)]) := hs.ob _ _ (by (first | (simp (disch := first | decide | omega | (simp only [nx]; first | done | omega)) only [go_sem]; first | done | rfl) | rfl))
  have u5 : T.ob (S.next + 1 + 1) = some (.box 26 (encV p).cells) := hs.ob _ _ (by (first | (simp (disch := first | decide | omega | (simp only [nx]; first | done | omega)) only [go_sem]; first | done | rfl) | rfl))
  have u6 : T.ob (S.next + 1 + 1 + 1) = some (.box 26 [.v (.int .i64 0), .v (.int .i64 0), .v (.string ⟨#[]⟩), .sl .full [], .sl .full [], .sl .full []]) := hs.ob _ _ (by (first | (simp (disch := first | decide | omega | (simp only [nx]; first | done | omega)) only [go_sem]; first | done | rfl) | rfl))
  have hwe := v.weight_eq
  have hpl := partsLen v
  have n1 := ownOb_len (wSs v.names) (by omega) hO.ln
  have n3 := ownOb_len (wVs v.parts) (by omega) hO.lp
  rw [List.length_map] at n1 n3
  have hwh := whole_w v a b c ca cb cc
  rw [ownV] at hwh
  (simp (disch := first | decide | omega | (simp only [nx]; first | done | omega)) only [go_sem, u3, u4, u5, u6, ownV]; (repeat with_reducible refine aI ?_))
  refine DCalls.of_pure hwh ?_
  have hOn := hO.obn
  have hOp := hO.obp
  cases hwb : wholeB v with
  | false =>
    (simp (disch := first | decide | omega | (simp only [nx]; first | done | omega)) only [go_sem, u3, u4, u5, u6]; (repeat with_reducible refine aI ?_))
    have e0 : withV v x p = v := by rw [withV, if_pos hwb]
    rw [e0]
    refine fin_own (v := v) (zn := zn) (zi := zi) (zp := zp) hS ?_ (by omega) (by omega) (by omega) ⟨?_, hO.ln, ?_, hO.li, ?_, hO.lp, hO.ab, hO.ac, hO.bc⟩
    · exact (hst.set hS (Nat.le_refl _) _).set hS (by omega) _
    · (first | (simp (disch := first | decide | omega | (simp only [nx]; first | done | omega)) only [go_sem, hOn]; first | done | rfl) | rfl)
    · (first | (simp (disch := first | decide | omega | (simp only [nx]; first | done | omega)) only [go_sem, hO.obi]; first | done | rfl) | rfl)
    · (first | (simp (disch := first | decide | omega | (simp only [nx]; first | done | omega)) only [go_sem, hOp]; first | done | rfl) | rfl)
  | true =>
    have hlen : v.names.length ≤ v.parts.length := by
      simp only [wholeB, Bool.and_eq_true, decide_eq_true_eq] at hwb
      exact hwb.2
    (simp (disch := first | decide | omega | (simp only [nx]; first | done | omega)) only [go_sem, u3, u4, u5, u6]; (repeat with_reducible refine aI ?_))
    refine strIndex_w v.names x (by omega) (c := ca) (zs := zn) (by (first | (simp (disch := first | decide | omega | (simp only [nx]; first | done | omega)) only [go_sem, hOn]; first | done | rfl) | rfl)) n1 ?_
    by_cases hm : x ∈ v.names
    · have hi := ix_lt hm
      have b1 : decide (0 ≤ ixI v.names x) = true := by rw [ixI, if_pos hm]; simp
      have e1 : ixI v.names x = (ixN v.names x : Int) := by rw [ixI, if_pos hm]
      have hOp' := hOp
      rw [ownOb_box (by omega)] at hOp'
      have hpl1 : (flat (v.parts.map encV) ++ zp).length = cc * 6 := hO.lp
      (simp (disch := first | decide | omega | (simp only [nx]; first | done | omega)) only [go_sem, u3, u4, u5, u6, b1, e1]; (repeat with_reducible refine aI ?_))
      refine ddraw_mk 6 (by kernel_rfl) ?_
      (simp (disch := first | decide | omega | (simp only [nx]; first | done | omega)) only [go_sem, u3, u4, u5, u6, e1]; (repeat with_reducible refine aI ?_))
      refine dqgo_mk (copyV_d p.depth p (Nat.le_refl _) (by omega)) ?_
      (simp (disch := first | decide | omega | (simp only [nx]; first | done | omega)) only [go_sem, u3, u4, u5, u6, e1, hOp', hpl1]; (repeat with_reducible refine aI ?_))
      have e0 : withV v x p = v.ofFields v.names (v.parts.set (ixN v.names x) p) := by rw [withV, if_neg (by rw [hwb]; simp), if_pos hm]
      have e2 : ownV v a b c ca cb cc = ownV (v.ofFields v.names (v.parts.set (ixN v.names x) p)) a b c ca cb cc := by
        simp only [ownV, DVal.ofFields, DVal.kind, DVal.n, DVal.s, DVal.names, DVal.ids, DVal.parts, List.length_set]
      rw [e0]
      show DFinT _ S _ (ownV v a b c ca cb cc) _
      rw [e2]
      have hi2 : ixN v.names x < (v.parts.map encV).length := by rw [List.length_map]; omega
      refine fin_own (zn := zn) (zi := zi) (zp := zp) hS ?_ (by omega) (by omega) (by omega) ⟨?_, hO.ln, ?_, hO.li, ?_, ?_, hO.ab, hO.ac, hO.bc⟩
      · exact ((hst.set hS (Nat.le_refl _) _).set hS (by omega) _).set hS (by omega) _
      · have := hO.ac
        (first | (simp (disch := first | decide | omega | (simp only [nx]; first | done | omega)) only [go_sem, hOn]; first | done | rfl) | rfl)
      · have := hO.bc
        (first | (simp (disch := first | decide | omega | (simp only [nx]; first | done | omega)) only [go_sem, hO.obi]; first | done | rfl) | rfl)
      · have := ownOb_box (e := 26) (es := (v.parts.set (ixN v.names x) p).map encV) (zs := zp) (c := cc) (by omega)
        show _ = some (ownOb 26 ((v.parts.set (ixN v.names x) p).map encV) zp cc)
        rw [this, splice_flat' hi2 (wVs _) (cells_encV p), ← List.map_set]
        (first | (simp (disch := first | decide | omega | (simp only [nx]; first | done | omega)) only [go_sem]; first | done | rfl) | rfl)
      · show (flat ((v.parts.set (ixN v.names x) p).map encV) ++ zp).length = _
        rw [← hpl1, List.length_append, List.length_append, dflat_length (wVs _), dflat_length (wVs _)]
        simp
    · have b1 : decide (0 ≤ ixI v.names x) = false := by rw [ixI, if_neg hm]; simp
      have e0 : withV v x p = v.ofFields (v.names.take (atN v.names x) ++ [x] ++ v.names.drop (atN v.names x)) (v.parts.take (atN v.names x) ++ [p] ++ v.parts.drop (atN v.names x)) := by rw [withV, if_neg (by rw [hwb]; simp), if_neg hm]
      have hgl : gtN v.names x ≤ v.names.length := List.findIdx_le_length
      rw [e0]
      clear e0
      (simp (disch := first | decide | omega | (simp only [nx]; first | done | omega)) only [go_sem, u3, u4, u5, u6, b1]; (repeat with_reducible refine aI ?_))
      refine idxGt_w v.names x (by omega) (c := ca) (zs := zn) (by (first | (simp (disch := first | decide | omega | (simp only [nx]; first | done | omega)) only [go_sem, hOn]; first | done | rfl) | rfl)) n1 (by (first | (simp (disch := first | decide | omega | (simp only [nx]; first | done | omega)) only [go_sem, u4]; first | done | rfl) | rfl)) ?_
      obtain ⟨q, hq⟩ : ∃ q, atN v.names x = q := ⟨_, rfl⟩
      have hq2 : gtN v.names x = q := hq
      rw [hq]
      rw [hq2] at hgl
      have hab := hO.ab
      have hac := hO.ac
      have hbc := hO.bc
      have hat : a < T.next := hT.lt hOn
      have hbt : b < T.next := hT.lt hO.obi
      have hct : c < T.next := hT.lt hOp
      by_cases hg : gtN v.names x < v.names.length
      · have b2 : decide ((q : Int) < 0) = false := by simp
        have e3 : gtI v.names x = (q : Int) := by rw [gtI, if_pos hg, hq2]
        (simp (disch := first | decide | omega | (simp only [nx]; first | done | omega)) only [go_sem, u3, u4, u5, u6, b2, e3]; (repeat with_reducible refine aI ?_))
        refine ins_str (es := v.names.map strD) (x := .v (sv x)) (zs := zn) (by (first | (simp (disch := first | decide | omega | (simp only [nx]; first | done | omega)) only [go_sem, hOn]; first | done | rfl) | rfl)) hO.ln (wSs _) rfl (by rw [List.length_map]; omega) (by rw [List.length_map]; omega) (by rw [set_next]; omega) (by rw [List.length_map]) fun ca' zn' hn1 hn2 => ?_
        (simp (disch := first | decide | omega | (simp only [nx]; first | done | omega)) only [go_sem, u3, u4, u5, u6, e3, hab, hac]; (repeat with_reducible refine aI ?_))
        refine ddraw_mk 6 (by kernel_rfl) ?_
        (simp (disch := first | decide | omega | (simp only [nx]; first | done | omega)) only [go_sem, u3, u4, u5, u6, e3, hab, hac]; (repeat with_reducible refine aI ?_))
        refine dqgo_mk (copyV_d p.depth p (Nat.le_refl _) (by omega)) ?_
        (simp (disch := first | decide | omega | (simp only [nx]; first | done | omega)) only [go_sem, u3, u4, u5, u6, e3, hab, hac]; (repeat with_reducible refine aI ?_))
        refine ins_val (es := v.parts.map encV) (x := encV p) (zs := zp) (by (first | (simp (disch := first | decide | omega | (simp only [nx]; first | done | omega)) only [go_sem, hOp]; first | done | rfl) | rfl)) hO.lp (wVs _) (cells_encV p) (by rw [List.length_map]; omega) (by rw [List.length_map]; omega) (by simp (disch := first | decide | omega | (simp only [nx]; first | done | omega)) only [go_sem]; first | done | omega) (by rw [List.length_map]) fun cc' zp' hp1 hp2 => ?_
        (simp (disch := first | decide | omega | (simp only [nx]; first | done | omega)) only [go_sem, u3, u4, u5, u6, e3, hab, hac]; (repeat with_reducible refine aI ?_))
        have e2 : ownV (v.ofFields (v.names.take q ++ [x] ++ v.names.drop q) (v.parts.take q ++ [p] ++ v.parts.drop q)) T.next b (T.next + 1) ca' cb cc' = .agg [.v (.int .i64 v.kind), .v (.int .i64 v.n), .v (sv v.s), .win T.next 0 (v.names.length + 1) ca', .win b 0 v.ids.length cb, .win (T.next + 1) 0 (v.parts.length + 1) cc'] := by
          have l1 : (v.names.take q ++ [x] ++ v.names.drop q).length = v.names.length + 1 := by simp only [List.length_append, List.length_take, List.length_drop, List.length_cons, List.length_nil]; omega
          have l2 : (v.parts.take q ++ [p] ++ v.parts.drop q).length = v.parts.length + 1 := by simp only [List.length_append, List.length_take, List.length_drop, List.length_cons, List.length_nil]; omega
          simp only [ownV, DVal.ofFields, DVal.kind, DVal.n, DVal.s, DVal.names, DVal.ids, DVal.parts] at *
          rw [l1, l2]
        rw [← e2]
        refine fin_own (zn := zn') (zi := zi) (zp := zp') hS ?_ (by omega) (by omega) (by omega) ⟨?_, ?_, ?_, hO.li, ?_, ?_, by omega, by omega, by omega⟩
        · exact (((((((hst.set hS (Nat.le_refl _) _).drop hS (by omega)).add hS _).set hS (Nat.le_refl _) _).drop hS (by omega)).add hS _).set hS (Nat.le_refl _) _).set hS (by omega) _
        · have E1 : (v.names.take q ++ [x] ++ v.names.drop q).map strD = (v.names.map strD).take q ++ [.v (sv x)] ++ (v.names.map strD).drop q := by simp only [List.map_append, List.map_take, List.map_drop]; rfl
          show _ = some (ownOb 9 ((v.names.take q ++ [x] ++ v.names.drop q).map strD) zn' ca')
          rw [E1]
          (first | (simp (disch := first | decide | omega | (simp only [nx]; first | done | omega)) only [go_sem]; first | done | rfl) | rfl)
        · have E1 : (v.names.take q ++ [x] ++ v.names.drop q).map strD = (v.names.map strD).take q ++ [.v (sv x)] ++ (v.names.map strD).drop q := by simp only [List.map_append, List.map_take, List.map_drop]; rfl
          show (flat ((v.names.take q ++ [x] ++ v.names.drop q).map strD) ++ zn').length = _
          rw [E1]
          exact hn2
        · (first | (simp (disch := first | decide | omega | (simp only [nx]; first | done | omega)) only [go_sem, hO.obi]; first | done | rfl) | rfl)
        · have E1 : (v.parts.take q ++ [p] ++ v.parts.drop q).map encV = (v.parts.map encV).take q ++ [encV p] ++ (v.parts.map encV).drop q := by simp only [List.map_append, List.map_take, List.map_drop]; rfl
          show _ = some (ownOb 26 ((v.parts.take q ++ [p] ++ v.parts.drop q).map encV) zp' cc')
          rw [E1]
          (first | (simp (disch := first | decide | omega | (simp only [nx]; first | done | omega)) only [go_sem]; first | done | rfl) | rfl)
        · have E1 : (v.parts.take q ++ [p] ++ v.parts.drop q).map encV = (v.parts.map encV).take q ++ [encV p] ++ (v.parts.map encV).drop q := by simp only [List.map_append, List.map_take, List.map_drop]; rfl
          show (flat ((v.parts.take q ++ [p] ++ v.parts.drop q).map encV) ++ zp').length = _
          rw [E1]
          exact hp2
      · have b2 : decide (gtI v.names x < 0) = true := by rw [gtI, if_neg hg]; decide
        have e3 : (v.names.length : Int) = (q : Int) := by rw [hq2] at hg; omega
        (simp (disch := first | decide | omega | (simp only [nx]; first | done | omega)) only [go_sem, u3, u4, u5, u6, b2]; (repeat with_reducible refine aI ?_))
        rw [e3]
        refine ins_str (es := v.names.map strD) (x := .v (sv x)) (zs := zn) (by (first | (simp (disch := first | decide | omega | (simp only [nx]; first | done | omega)) only [go_sem, hOn]; first | done | rfl) | rfl)) hO.ln (wSs _) rfl (by rw [List.length_map]; omega) (by rw [List.length_map]; omega) (by rw [set_next]; omega) (by rw [List.length_map]) fun ca' zn' hn1 hn2 => ?_
        (simp (disch := first | decide | omega | (simp only [nx]; first | done | omega)) only [go_sem, u3, u4, u5, u6, e3, hab, hac]; (repeat with_reducible refine aI ?_))
        refine ddraw_mk 6 (by kernel_rfl) ?_
        (simp (disch := first | decide | omega | (simp only [nx]; first | done | omega)) only [go_sem, u3, u4, u5, u6, e3, hab, hac]; (repeat with_reducible refine aI ?_))
        refine dqgo_mk (copyV_d p.depth p (Nat.le_refl _) (by omega)) ?_
        (simp (disch := first | decide | omega | (simp only [nx]; first | done | omega)) only [go_sem, u3, u4, u5, u6, e3, hab, hac]; (repeat with_reducible refine aI ?_))
        refine ins_val (es := v.parts.map encV) (x := encV p) (zs := zp) (by (first | (simp (disch := first | decide | omega | (simp only [nx]; first | done | omega)) only [go_sem, hOp]; first | done | rfl) | rfl)) hO.lp (wVs _) (cells_encV p) (by rw [List.length_map]; omega) (by rw [List.length_map]; omega) (by simp (disch := first | decide | omega | (simp only [nx]; first | done | omega)) only [go_sem]; first | done | omega) (by rw [List.length_map]) fun cc' zp' hp1 hp2 => ?_
        (simp (disch := first | decide | omega | (simp only [nx]; first | done | omega)) only [go_sem, u3, u4, u5, u6, e3, hab, hac]; (repeat with_reducible refine aI ?_))
        have e2 : ownV (v.ofFields (v.names.take q ++ [x] ++ v.names.drop q) (v.parts.take q ++ [p] ++ v.parts.drop q)) T.next b (T.next + 1) ca' cb cc' = .agg [.v (.int .i64 v.kind), .v (.int .i64 v.n), .v (sv v.s), .win T.next 0 (v.names.length + 1) ca', .win b 0 v.ids.length cb, .win (T.next + 1) 0 (v.parts.length + 1) cc'] := by
          have l1 : (v.names.take q ++ [x] ++ v.names.drop q).length = v.names.length + 1 := by simp only [List.length_append, List.length_take, List.length_drop, List.length_cons, List.length_nil]; omega
          have l2 : (v.parts.take q ++ [p] ++ v.parts.drop q).length = v.parts.length + 1 := by simp only [List.length_append, List.length_take, List.length_drop, List.length_cons, List.length_nil]; omega
          simp only [ownV, DVal.ofFields, DVal.kind, DVal.n, DVal.s, DVal.names, DVal.ids, DVal.parts] at *
          rw [l1, l2]
        rw [← e2]
        refine fin_own (zn := zn') (zi := zi) (zp := zp') hS ?_ (by omega) (by omega) (by omega) ⟨?_, ?_, ?_, hO.li, ?_, ?_, by omega, by omega, by omega⟩
        · exact (((((((hst.set hS (Nat.le_refl _) _).drop hS (by omega)).add hS _).set hS (Nat.le_refl _) _).drop hS (by omega)).add hS _).set hS (Nat.le_refl _) _).set hS (by omega) _
        · have E1 : (v.names.take q ++ [x] ++ v.names.drop q).map strD = (v.names.map strD).take q ++ [.v (sv x)] ++ (v.names.map strD).drop q := by simp only [List.map_append, List.map_take, List.map_drop]; rfl
          show _ = some (ownOb 9 ((v.names.take q ++ [x] ++ v.names.drop q).map strD) zn' ca')
          rw [E1]
          (first | (simp (disch := first | decide | omega | (simp only [nx]; first | done | omega)) only [go_sem]; first | done | rfl) | rfl)
        · have E1 : (v.names.take q ++ [x] ++ v.names.drop q).map strD = (v.names.map strD).take q ++ [.v (sv x)] ++ (v.names.map strD).drop q := by simp only [List.map_append, List.map_take, List.map_drop]; rfl
          show (flat ((v.names.take q ++ [x] ++ v.names.drop q).map strD) ++ zn').length = _
          rw [E1]
          exact hn2
        · (first | (simp (disch := first | decide | omega | (simp only [nx]; first | done | omega)) only [go_sem, hO.obi]; first | done | rfl) | rfl)
        · have E1 : (v.parts.take q ++ [p] ++ v.parts.drop q).map encV = (v.parts.map encV).take q ++ [encV p] ++ (v.parts.map encV).drop q := by simp only [List.map_append, List.map_take, List.map_drop]; rfl
          show _ = some (ownOb 26 ((v.parts.take q ++ [p] ++ v.parts.drop q).map encV) zp' cc')
          rw [E1]
          (first | (simp (disch := first | decide | omega | (simp only [nx]; first | done | omega)) only [go_sem]; first | done | rfl) | rfl)
        · have E1 : (v.parts.take q ++ [p] ++ v.parts.drop q).map encV = (v.parts.map encV).take q ++ [encV p] ++ (v.parts.map encV).drop q := by simp only [List.map_append, List.map_take, List.map_drop]; rfl
          show (flat ((v.parts.take q ++ [p] ++ v.parts.drop q).map encV) ++ zp').length = _
          rw [E1]
          exact hp2
end Go.Proofs.YtbcabejdchkpmaaGreatDoor

namespace Go.Proofs.YtbcabejdchkpmaaGreatDoor
open Go.RowKit
def recV0 : DVal := .mk 5 0 [] [] [] []
def recV (l : List Str) (ps : List DVal) : Nat → DVal
  | 0 => recV0
  | i + 1 => withV (recV l ps i) (l.getD i []) (ps.getD i default)
theorem ofFields_weight (v : DVal) (ns : List Str) (ps : List DVal) : (v.ofFields ns ps).weight = 1 + ns.length + v.ids.length + DVal.weights ps := by rw [DVal.weight_eq]; rfl
theorem withV_weight (v p : DVal) (x : Str) : (withV v x p).weight ≤ v.weight + 1 + p.weight := by
  have hw : ∀ l m : List DVal, DVal.weights (l ++ m) = DVal.weights l + DVal.weights m := fun l m => by
    induction l with
    | nil => simp [DVal.weights]
    | cons a l ih => simp only [List.cons_append, DVal.weights, ih]; omega
  have hs : ∀ (l : List DVal) (i : Nat), DVal.weights (l.set i p) ≤ DVal.weights l + p.weight := fun l => by
    induction l with
    | nil => intro i; simp [DVal.weights]
    | cons a l ih =>
      intro i
      cases i with
      | zero => simp only [List.set_cons_zero, DVal.weights]; omega
      | succ i => simp only [List.set_cons_succ, DVal.weights]; have := ih i; omega
  have hv := v.weight_eq
  unfold withV
  split
  · omega
  · split
    · rw [ofFields_weight]
      have := hs v.parts (ixN v.names x)
      omega
    · rw [ofFields_weight]
      have e : DVal.weights (v.parts.take (atN v.names x)) + DVal.weights (v.parts.drop (atN v.names x)) = DVal.weights v.parts := by rw [← hw, List.take_append_drop]
      have e2 : (v.names.take (atN v.names x) ++ [x] ++ v.names.drop (atN v.names x)).length = v.names.length + 1 := by
        have : atN v.names x ≤ v.names.length := List.findIdx_le_length
        simp only [List.length_append, List.length_take, List.length_drop, List.length_cons, List.length_nil]; omega
      rw [e2, hw, hw]
      simp only [DVal.weights]
      omega
theorem recV_weight (l : List Str) (ps : List DVal) (m : Nat) (h : ∀ p ∈ ps, p.weight ≤ m) : ∀ i, i ≤ ps.length → (recV l ps i).weight ≤ 1 + i * (m + 1)
  | 0, _ => by simp [recV, recV0, DVal.weight_eq, DVal.names, DVal.ids, DVal.parts, DVal.weights]
  | i + 1, hi => by
    have h1 := recV_weight l ps m h i (by omega)
    have h2 := withV_weight (recV l ps i) (ps.getD i default) (l.getD i [])
    have h3 := h _ (List.getElem_mem (show i < ps.length from hi))
    have e : ps.getD i default = ps[i] := getD_at hi
    rw [e] at h2
    show (withV _ _ _).weight ≤ _
    rw [e]
    rw [Nat.add_mul]
    omega
set_option maxRecDepth 200000 in
set_option maxHeartbeats 4000000 in
theorem record_d (own own2 : Own) (l : List Str) (ps : List DVal) (hl : l.length ≤ 1000) (hp : ps.length ≤ 20) (hw : ∀ p ∈ ps, p.weight ≤ 4000) (hx : ∀ x ∈ l, x.length ≤ maxLen) : DPure Tryz.prog 14 [.sl own (l.map strD), .sl own2 (ps.map encV)] (encV (recV l ps (min l.length ps.length))) := by
  refine dpure_of_dwp mixed Tryz.func14 rfl (fun _ _ => by kernel_rfl) (rs := [.cell 4 26]) rfl (by kernel_rfl) (closed_encV _) (fun S hS => ?_)
  have hmin : (if (ps.length : Int) < (l.length : Int) then (ps.length : Int) else (l.length : Int)) = ((min l.length ps.length : Nat) : Int) := by split <;> omega
  obtain ⟨n, hn⟩ : ∃ n, min l.length ps.length = n := ⟨_, rfl⟩
  have hn1 : n ≤ l.length := by omega
  have hn2 : n ≤ ps.length := by omega
  rw [hn] at hmin ⊢
  (simp (disch := first | decide | omega | (simp only [nx]; first | done | omega)) only [go_sem, hmin]; (repeat with_reducible refine aI ?_))
  have e0 : (encV (recV l ps 0)).cells = [.v (.int .i64 5), .v (.int .i64 0), .v (sv []), .sl .no [], .sl .no [], .sl .no []] := by rw [recV, recV0, encV_eq]; rfl
  refine dloop_up (fun t => List.contains [6, 13, 14, 15, 16, 17, 18, 19, 20, 21, 22, 23, 24, 25, 26] t) (by kernel_rfl) (by exact (by (repeat' first | assumption | refine St.WF.leave ?_ _ | refine St.WF.add ?_ _ | refine St.WF.set ?_ ?_ _ | refine St.WF.grow ?_ _ _ _ | refine St.WF.keep ?_ ?_ | (first | omega | (simp only [RowOk.lo, nx]; first | done | omega))))) n (fun i g T => i ≤ n ∧ g 13 = .v (.int .i64 ((i : Nat) : Int)) ∧ (i = 0 ∧ T.ob (S.next + 1) = some (.box 26 [.v (.int .i64 5), .v (.int .i64 0), .v (.string ⟨#[]⟩), .sl .full [], .sl .full [], .sl .full []]) ∨ 0 < i ∧ T.ob (S.next + 1) = some (.box 26 (encV (recV l ps i)).cells)) ∧ (∃ cs, cs.length = 6 ∧ T.ob S.next = some (.box 26 cs)) ∧ S.Sub T ∧ S.next + 1 < T.next) ⟨by omega, by (first | (simp (disch := first | decide | omega | (simp only [nx]; first | done | omega)) only [go_sem]; first | done | rfl) | rfl), .inl ⟨rfl, by (first | (simp (disch := first | decide | omega | (simp only [nx]; first | done | omega)) only [go_sem]; first | done | rfl) | rfl)⟩, ⟨_, rfl, by (first | (simp (disch := first | decide | omega | (simp only [nx]; first | done | omega)) only [go_sem]; first | done | rfl) | rfl)⟩, by exact (by (repeat' first | assumption | exact St.Sub.refl _ | exact RowOk.sub (by assumption) (by assumption) | refine St.Sub.trans ?_ (RowOk.sub (by assumption) (by assumption)) | refine St.Sub.add ?_ ?_ _ | refine St.Sub.set ?_ ?_ ?_ _ | refine St.Sub.keep ?_ ?_ | refine St.WF.leave ?_ _ | refine St.WF.add ?_ _ | refine St.WF.set ?_ ?_ _ | refine St.WF.grow ?_ _ _ _ | refine St.WF.keep ?_ ?_ | (first | omega | (simp only [RowOk.lo, nx]; first | done | omega)))), by simp only [add_next, set_next]; omega⟩ ?_
  rintro i g T hT hg ⟨le, q13, hx1, ⟨cs, hcs, hx0⟩, hs, hsn⟩
  have q0 := hg 0 rfl
  have q1 := hg 1 rfl
  have q4 := hg 4 rfl
  have q5 := hg 5 rfl
  have q12 := hg 12 rfl
  simp (disch := first | decide | omega | (simp only [nx]; first | done | omega)) only [go_sem, hmin] at q0 q1 q4 q5 q12
  clear hg
  have hrw := recV_weight l ps 4000 hw i (by omega)
  have hrw2 : i * 4001 ≤ 20 * 4001 := Nat.mul_le_mul_right _ (by omega)
  by_cases hlt : i < n
  · have b5 : decide ((i : Int) < (n : Int)) = true := by simp; omega
    have w1 : IntKind.i64.wrap ((i : Int) + 1) = ((i + 1 : Nat) : Int) := IntWalk.i64_in _ ⟨by omega, by omega⟩
    have hi1 : i < l.length := by omega
    have hi2 : i < ps.length := by omega
    have g1 := getD_map strD l i hi1
    have g2 := getD_map encV ps i hi2
    have hwd := with_d (recV l ps i) ps[i] l[i] (by omega) (by have := hw _ (List.getElem_mem hi2); omega) (hx _ (List.getElem_mem hi1))
    have er : recV l ps (i + 1) = withV (recV l ps i) l[i] ps[i] := by rw [recV, getD_at hi1, getD_at hi2]
    rcases hx1 with ⟨h0, hx1⟩ | ⟨_, hx1⟩
    · have hr0 : recV l ps i = recV0 := by rw [h0]; rfl
      (simp (disch := first | decide | omega | (simp only [nx]; first | done | omega)) only [go_sem, q0, q1, q5, q12, q13, b5]; (repeat with_reducible refine aI ?_))
      refine ddraw_mk 10 (by kernel_rfl) ?_
      (simp (disch := first | decide | omega | (simp only [nx]; first | done | omega)) only [go_sem, q0, q1, q5, q12, q13, hx1, g1, g2]; (repeat with_reducible refine aI ?_))
      refine dqgo_mk (DPure.weak hwd (by rw [hr0]; simp only [frzL, frz_encV]; rfl)) ?_
      (simp (disch := first | decide | omega | (simp only [nx]; first | done | omega)) only [go_sem, q0, q1, q5, q12, q13, hx1, g1, g2, w1]; (repeat with_reducible refine aI ?_))
      rw [← er]
      refine ⟨hlt, _, fun _ _ h => h, by omega, by (first | (simp (disch := first | decide | omega | (simp only [nx]; first | done | omega)) only [go_sem]; first | done | rfl) | rfl), .inr ⟨by omega, ?_⟩, ⟨cs, hcs, ?_⟩, ?_, ?_⟩
      · show (if S.next + 1 = S.next + 1 then _ else _) = _
        rw [if_pos rfl]
      · show (if S.next = S.next + 1 then _ else _) = _
        rw [if_neg (by omega)]; exact hx0
      · exact hs.set hS (by omega) _
      · exact hsn
    · (simp (disch := first | decide | omega | (simp only [nx]; first | done | omega)) only [go_sem, q0, q1, q5, q12, q13, b5]; (repeat with_reducible refine aI ?_))
      refine ddraw_mk 10 (by kernel_rfl) ?_
      (simp (disch := first | decide | omega | (simp only [nx]; first | done | omega)) only [go_sem, q0, q1, q5, q12, q13, hx1, g1, g2]; (repeat with_reducible refine aI ?_))
      refine dqgo_mk hwd ?_
      (simp (disch := first | decide | omega | (simp only [nx]; first | done | omega)) only [go_sem, q0, q1, q5, q12, q13, hx1, g1, g2, w1]; (repeat with_reducible refine aI ?_))
      rw [← er]
      refine ⟨hlt, _, fun _ _ h => h, by omega, by (first | (simp (disch := first | decide | omega | (simp only [nx]; first | done | omega)) only [go_sem]; first | done | rfl) | rfl), .inr ⟨by omega, ?_⟩, ⟨cs, hcs, ?_⟩, ?_, ?_⟩
      · show (if S.next + 1 = S.next + 1 then _ else _) = _
        rw [if_pos rfl]
      · show (if S.next = S.next + 1 then _ else _) = _
        rw [if_neg (by omega)]; exact hx0
      · exact hs.set hS (by omega) _
      · exact hsn
  · have b5 : decide ((i : Int) < (n : Int)) = false := by simp; omega
    obtain rfl : i = n := by omega
    have hd6 : List.drop 6 cs = [] := List.drop_of_length_le (by omega)
    rcases hx1 with ⟨h0, hx1⟩ | ⟨_, hx1⟩
    · have hr0 : recV l ps i = recV0 := by rw [h0]; rfl
      (simp (disch := first | decide | omega | (simp only [nx]; first | done | omega)) only [go_sem, q0, q1, q5, q12, q13, b5, q4, hx0, hx1, hcs, hd6]; (repeat with_reducible refine aI ?_))
      rw [hr0]
      refine ⟨?_, hs.set hS (Nat.le_refl _) _⟩
      rw [recV0, encV_eq]; rfl
    · (simp (disch := first | decide | omega | (simp only [nx]; first | done | omega)) only [go_sem, q0, q1, q5, q12, q13, b5, q4, hx0, hx1, hcs, hd6]; (repeat with_reducible refine aI ?_))
      exact ⟨frz_encV _, hs.set hS (Nat.le_refl _) _⟩
end Go.Proofs.YtbcabejdchkpmaaGreatDoor

namespace Go.Proofs.YtbcabejdchkpmaaGreatDoor
open Go.RowKit
theorem i64_5 : I64 5 := WalkArith.wf_i64 (by omega)
def exA : DVal := .mk 2 5 [] [] [] []
def exB : DVal := .mk 1 1 [] [] [] []
def exV8 : DVal := .mk 5 0 [] [[97], [98]] [] [exB, exA]
theorem ex_rec : recV [[98], [97]] [exA, exB] 2 = exV8 := by kernel_rfl
theorem ex_bytes : bytesOfV exV8 = [5, 2, 1, 97, 1, 1, 1, 98, 2, 10] := by
  have e1 : bytesV 1 exA = [2, 10] := by
    simp [bytesV, vheadB, vkindB, exA, DVal.kind, DVal.n, DVal.parts, zig, numB_lt]
    decide
  have e2 : bytesV 1 exB = [1, 1] := by
    simp [bytesV, vheadB, vkindB, exB, DVal.kind, DVal.n, DVal.parts]
  show bytesV 2 exV8 = _
  have h : bytesV 2 exV8 = vheadB exV8 ++ (List.range exV8.parts.length).flatMap fun i => vkeyB exV8 i ++ bytesV 1 (exV8.parts.getD i default) := rfl
  rw [h]
  have h2 : List.range exV8.parts.length = [0, 1] := rfl
  rw [h2]
  have p0 : exV8.parts.getD 0 default = exB := rfl
  have p1 : exV8.parts.getD 1 default = exA := rfl
  simp only [List.flatMap_cons, List.flatMap_nil, p0, p1, e1, e2]
  have k0 : vkeyB exV8 0 = [1, 97] := by
    show numB 1 ++ [97] = _
    rw [numB_lt _ (by omega)]; rfl
  have k1 : vkeyB exV8 1 = [1, 98] := by
    show numB 1 ++ [98] = _
    rw [numB_lt _ (by omega)]; rfl
  have hh : vheadB exV8 = [5, 2] := by
    show vkindB exV8 :: numB 2 = _
    rw [numB_lt _ (by omega)]; rfl
  rw [k0, k1, hh]
  rfl
theorem ex_enc : encRes exV8 = .tup [.sl .no (([5, 2, 1, 97, 1, 1, 1, 98, 2, 10] : List UInt8).map bD), .v .nilIface] := by
  have hr : rightV 5 exV8 = true := by kernel_rfl
  rw [encRes, if_neg (by rw [hr]; simp), ex_bytes, if_neg (by simp)]
set_option maxRecDepth 200000 in
set_option maxHeartbeats 4000000 in
theorem awake08_d : DPure Tryz.prog 5 [] (.v (.bool true)) := by
  refine dpure_of_dwp mixed Tryz.func5 rfl (fun _ _ => by kernel_rfl) (rs := [.tmp 0]) rfl (by kernel_rfl) trivial (fun S hS => ?_)
  (simp (disch := first | decide | omega | (simp only [nx]; first | done | omega)) only [go_sem]; (repeat with_reducible refine aI ?_))
  have hrec := record_d .no .no [[98], [97]] [exA, exB] (by simp) (by simp) (by
    intro p hp
    simp only [List.mem_cons, List.not_mem_nil, or_false] at hp
    rcases hp with rfl | rfl <;> (rw [DVal.weight_eq]; simp [exA, exB, DVal.names, DVal.ids, DVal.parts, DVal.weights])) (by
    intro x hx
    simp only [List.mem_cons, List.not_mem_nil, or_false] at hx
    rcases hx with rfl | rfl <;> simp [maxLen])
  rw [show min ([[98], [97]] : List Str).length [exA, exB].length = 2 from rfl, ex_rec] at hrec
  refine DCalls.of_pure (DPure.weak hrec (by
    simp only [frzL, D.frz, List.map_cons, List.map_nil, encV_eq]
    rfl)) ?_
  (simp (disch := first | decide | omega | (simp only [nx]; first | done | omega)) only [go_sem]; (repeat with_reducible refine aI ?_))
  refine DCalls.of_pure (encode_d exV8 (by
    rw [okV_eq]
    refine ⟨i64_5, i64_0, by simp [exV8, DVal.s], ?_, by simp [exV8, DVal.names], by simp [exV8, DVal.ids], by simp [exV8, DVal.ids], by simp [exV8, DVal.parts], ?_⟩
    · intro x hx
      simp only [exV8, DVal.names, List.mem_cons, List.not_mem_nil, or_false] at hx
      rcases hx with rfl | rfl <;> simp [maxLen]
    · intro p hp
      simp only [exV8, DVal.parts, List.mem_cons, List.not_mem_nil, or_false] at hp
      rcases hp with rfl | rfl
      all_goals
        rw [okV_eq]
        refine ⟨?_, ?_, by simp [exA, exB, DVal.s], by simp [exA, exB, DVal.names], by simp [exA, exB, DVal.names], by simp [exA, exB, DVal.ids], by simp [exA, exB, DVal.ids], by simp [exA, exB, DVal.parts], by simp [exA, exB, DVal.parts]⟩ <;> exact WalkArith.wf_i64 (by simp [exA, exB, DVal.kind, DVal.n])) (by
    rw [DVal.weight_eq]; simp [exV8, exA, exB, DVal.names, DVal.ids, DVal.parts, DVal.weights, DVal.weight_eq])) ?_
  rw [ex_enc]
  (simp (disch := first | decide | omega | (simp only [nx]; first | done | omega)) only [go_sem]; (repeat with_reducible refine aI ?_))
  have hbe := bytesEq_d .no .full [5, 2, 1, 97, 1, 1, 1, 98, 2, 10] [5, 2, 1, 97, 1, 1, 1, 98, 2, 10] (by simp) (by simp)
  rw [decide_eq_true rfl] at hbe
  refine DCalls.of_pure hbe ?_
  (simp (disch := first | decide | omega | (simp only [nx]; first | done | omega)) only [go_sem]; (repeat with_reducible refine aI ?_))
  exact ⟨rfl, (by (repeat' first | assumption | exact St.Sub.refl _ | exact RowOk.sub (by assumption) (by assumption) | refine St.Sub.trans ?_ (RowOk.sub (by assumption) (by assumption)) | refine St.Sub.add ?_ ?_ _ | refine St.Sub.set ?_ ?_ ?_ _ | refine St.Sub.keep ?_ ?_ | refine St.WF.leave ?_ _ | refine St.WF.add ?_ _ | refine St.WF.set ?_ ?_ _ | refine St.WF.grow ?_ _ _ _ | refine St.WF.keep ?_ ?_ | (first | omega | (simp only [RowOk.lo, nx]; first | done | omega))))⟩
end Go.Proofs.YtbcabejdchkpmaaGreatDoor

namespace Go.Proofs.YtbcabejdchkpmaaGreatDoor
open Go.RowKit
set_option maxRecDepth 200000 in
set_option maxHeartbeats 8000000 in
theorem decodeV_d (own : Own) (v : DVal) (ho : okV v) (hr : rightV 5 v = true) (h4 : (bytesOfV v).length ≤ 4096) : DPure Tryz.prog 10 [.sl own ((bytesOfV v).map bD)] (.tup [encV v, errO 0]) := by
  have hcl : (D.tup [encV v, errO 0]).closed := by
    have h1 := closed_encV v
    have h2 := errO_closed 0
    simp only [D.closed, D.all, allL] at h1 h2 ⊢
    exact ⟨h1, h2, trivial⟩
  refine dpure_of_dwp mixed Tryz.func10 rfl (fun _ _ => by kernel_rfl) (rs := [.cell 2 26, .tmp 3]) rfl (by kernel_rfl) hcl (fun S hS => ?_)
  have b1 : decide ((4096 : Int) < ((bytesOfV v).length : Int)) = false := by simp; omega
  (simp (disch := first | decide | omega | (simp only [nx]; first | done | omega)) only [go_sem, b1]; (repeat with_reducible refine aI ?_))
  refine (new_r (l := bytesOfV v) (by omega)).wf.mono ?_
  rintro _ T1 ⟨⟨k, rfl, hk1, hk2, hR, hob⟩, hT1⟩
  (simp (disch := first | decide | omega | (simp only [nx]; first | done | omega)) only [go_sem]; (repeat with_reducible refine aI ?_))
  refine (valRead_r (rest := []) (i := 0) v hr ho hk2 hR (by omega) (by omega) (by simp)).wf.mono ?_
  rintro _ T2 ⟨⟨rfl, hR2, hF2⟩, hT2⟩
  have hn2 := hF2.next
  have hk1' : S.next + 1 ≤ k := hk1
  have z2 := hF2.box S.next _ _ (by omega) (hob _ _ (add_eq (S := S)))
  (simp (disch := first | decide | omega | (simp only [nx]; first | done | omega)) only [go_sem]; (repeat with_reducible refine aI ?_))
  refine (end_r (hR2.obk ((set_ne (by omega)).trans (add_ne (by omega))) (by omega))).mono ?_
  rintro _ T3 ⟨rfl, he⟩
  rw [he]
  clear he
  (simp (disch := first | decide | omega | (simp only [nx]; first | done | omega)) only [go_sem, z2]; (repeat with_reducible refine aI ?_))
  refine ⟨?_, ⟨by show S.next ≤ T2.next + 1; omega, fun j ob e => ?_⟩⟩
  · simp only [D.frz, frzL, frz_encV, errO, if_true]
  · have := hS.lt e
    exact (set_ne (by omega)).trans ((set_ne (by omega)).trans ((add_ne (by omega)).trans (hF2.ob j ob (by omega) (hob _ _ (add_keep hS _ j ob e)))))
set_option maxRecDepth 200000 in
set_option maxHeartbeats 8000000 in
theorem valueEncodes_d (v : DVal) (ho : okV v) : DPure Tryz.prog 3 [encV v] (.v (.bool true)) := by
  refine dpure_of_dwp mixed Tryz.func3 rfl (fun _ _ => by kernel_rfl) (rs := [.tmp 2]) rfl (by kernel_rfl) trivial (fun S hS => ?_)
  (simp (disch := first | decide | omega | (simp only [nx]; first | done | omega)) only [go_sem]; (repeat with_reducible refine aI ?_))
  refine DCalls.of_pure (greatV_d v ho) ?_
  cases g1 : decide (roomV 12 v 300 < 0) with
  | true =>
    (simp (disch := first | decide | omega | (simp only [nx]; first | done | omega)) only [go_sem]; (repeat with_reducible refine aI ?_))
    refine DCalls.of_pure awake08_d ?_
    (simp (disch := first | decide | omega | (simp only [nx]; first | done | omega)) only [go_sem]; (repeat with_reducible refine aI ?_))
    refine ⟨?_, (by (repeat' first | assumption | exact St.Sub.refl _ | exact RowOk.sub (by assumption) (by assumption) | refine St.Sub.trans ?_ (RowOk.sub (by assumption) (by assumption)) | refine St.Sub.add ?_ ?_ _ | refine St.Sub.set ?_ ?_ ?_ _ | refine St.Sub.keep ?_ ?_ | refine St.WF.leave ?_ _ | refine St.WF.add ?_ _ | refine St.WF.set ?_ ?_ _ | refine St.WF.grow ?_ _ _ _ | refine St.WF.keep ?_ ?_ | (first | omega | (simp only [RowOk.lo, nx]; first | done | omega))))⟩
    rfl
  | false =>
  have hw := (roomV_spec 12 v 300 (by have := of_decide_eq_false g1; omega)).1
  have n1 := of_decide_eq_false g1
  have hd := DVal.depth_weight v.depth v (Nat.le_refl _)
  (simp (disch := first | decide | omega | (simp only [nx]; first | done | omega)) only [go_sem]; (repeat with_reducible refine aI ?_))
  refine DCalls.of_pure (encode_d v ho (by omega)) ?_
  cases hr : rightV 5 v with
  | false =>
    rw [encRes, if_pos hr]
    (simp (disch := first | decide | omega | (simp only [nx]; first | done | omega)) only [go_sem]; (repeat with_reducible refine aI ?_))
    refine DCalls.of_pure (refValRight_d v ho (by omega)) ?_
    rw [hr]
    (simp (disch := first | decide | omega | (simp only [nx]; first | done | omega)) only [go_sem]; (repeat with_reducible refine aI ?_))
    refine DCalls.of_pure (code_errO 1) ?_
    have b1 : (((1 : Nat) : Int) == 1) = true := rfl
    have b2 : (((0 : Nat) : Int) == 0) = true := rfl
    (simp (disch := first | decide | omega | (simp only [nx]; first | done | omega)) only [go_sem, b1, b2, List.length_nil]; (repeat with_reducible refine aI ?_))
    refine DCalls.of_pure awake08_d ?_
    (simp (disch := first | decide | omega | (simp only [nx]; first | done | omega)) only [go_sem]; (repeat with_reducible refine aI ?_))
    refine ⟨?_, (by (repeat' first | assumption | exact St.Sub.refl _ | exact RowOk.sub (by assumption) (by assumption) | refine St.Sub.trans ?_ (RowOk.sub (by assumption) (by assumption)) | refine St.Sub.add ?_ ?_ _ | refine St.Sub.set ?_ ?_ ?_ _ | refine St.Sub.keep ?_ ?_ | refine St.WF.leave ?_ _ | refine St.WF.add ?_ _ | refine St.WF.set ?_ ?_ _ | refine St.WF.grow ?_ _ _ _ | refine St.WF.keep ?_ ?_ | (first | omega | (simp only [RowOk.lo, nx]; first | done | omega))))⟩
    rfl
  | true =>
  rw [encRes, if_neg (by rw [hr]; simp)]
  have hrv := RV.of_right hr
  have hbl := bytesV_len v.depth v (Nat.le_refl _) hrv ho
  have hbl' : (bytesOfV v).length ≤ 110 * v.weight := hbl
  by_cases h4 : 4096 < (bytesOfV v).length
  · rw [if_pos h4]
    (simp (disch := first | decide | omega | (simp only [nx]; first | done | omega)) only [go_sem]; (repeat with_reducible refine aI ?_))
    refine DCalls.of_pure (refValRight_d v ho (by omega)) ?_
    rw [hr]
    (simp (disch := first | decide | omega | (simp only [nx]; first | done | omega)) only [go_sem]; (repeat with_reducible refine aI ?_))
    refine DCalls.of_pure (refValB_d v.depth v (Nat.le_refl _) hrv ho (by omega)) ?_
    have b0 : decide ((4096 : Int) < ((bytesV v.depth v).length : Int)) = true := decide_eq_true (by have : 4096 < (bytesV v.depth v).length := h4; omega)
    (simp (disch := first | decide | omega | (simp only [nx]; first | done | omega)) only [go_sem, b0]; (repeat with_reducible refine aI ?_))
    refine DCalls.of_pure (code_errO 3) ?_
    have b1 : (((3 : Nat) : Int) == 3) = true := rfl
    have b2 : (((0 : Nat) : Int) == 0) = true := rfl
    (simp (disch := first | decide | omega | (simp only [nx]; first | done | omega)) only [go_sem, b1, b2, List.length_nil]; (repeat with_reducible refine aI ?_))
    refine DCalls.of_pure awake08_d ?_
    (simp (disch := first | decide | omega | (simp only [nx]; first | done | omega)) only [go_sem]; (repeat with_reducible refine aI ?_))
    refine ⟨?_, (by (repeat' first | assumption | exact St.Sub.refl _ | exact RowOk.sub (by assumption) (by assumption) | refine St.Sub.trans ?_ (RowOk.sub (by assumption) (by assumption)) | refine St.Sub.add ?_ ?_ _ | refine St.Sub.set ?_ ?_ ?_ _ | refine St.Sub.keep ?_ ?_ | refine St.WF.leave ?_ _ | refine St.WF.add ?_ _ | refine St.WF.set ?_ ?_ _ | refine St.WF.grow ?_ _ _ _ | refine St.WF.keep ?_ ?_ | (first | omega | (simp only [RowOk.lo, nx]; first | done | omega))))⟩
    rfl
  · rw [if_neg h4]
    (simp (disch := first | decide | omega | (simp only [nx]; first | done | omega)) only [go_sem]; (repeat with_reducible refine aI ?_))
    refine DCalls.of_pure (refValRight_d v ho (by omega)) ?_
    rw [hr]
    (simp (disch := first | decide | omega | (simp only [nx]; first | done | omega)) only [go_sem]; (repeat with_reducible refine aI ?_))
    refine DCalls.of_pure (refValB_d v.depth v (Nat.le_refl _) hrv ho (by omega)) ?_
    have b0 : decide ((4096 : Int) < ((bytesV v.depth v).length : Int)) = false := decide_eq_false (by have : ¬ 4096 < (bytesV v.depth v).length := h4; omega)
    (simp (disch := first | decide | omega | (simp only [nx]; first | done | omega)) only [go_sem, b0]; (repeat with_reducible refine aI ?_))
    refine DCalls.of_pure (decodeV_d .no v ho hr (by omega)) ?_
    (simp (disch := first | decide | omega | (simp only [nx]; first | done | omega)) only [go_sem, errO, if_pos]; (repeat with_reducible refine aI ?_))
    refine DCalls.of_pure (bytesEq_d .no .no (bytesOfV v) (bytesOfV v) (by omega) (by omega)) ?_
    rw [decide_eq_true rfl]
    (simp (disch := first | decide | omega | (simp only [nx]; first | done | omega)) only [go_sem]; (repeat with_reducible refine aI ?_))
    refine DCalls.of_pure (refSameV_d v v ho ho) ?_
    rw [eqB_true rfl]
    (simp (disch := first | decide | omega | (simp only [nx]; first | done | omega)) only [go_sem]; (repeat with_reducible refine aI ?_))
    refine DCalls.of_pure awake08_d ?_
    (simp (disch := first | decide | omega | (simp only [nx]; first | done | omega)) only [go_sem]; (repeat with_reducible refine aI ?_))
    refine ⟨?_, (by (repeat' first | assumption | exact St.Sub.refl _ | exact RowOk.sub (by assumption) (by assumption) | refine St.Sub.trans ?_ (RowOk.sub (by assumption) (by assumption)) | refine St.Sub.add ?_ ?_ _ | refine St.Sub.set ?_ ?_ ?_ _ | refine St.Sub.keep ?_ ?_ | refine St.WF.leave ?_ _ | refine St.WF.add ?_ _ | refine St.WF.set ?_ ?_ _ | refine St.WF.grow ?_ _ _ _ | refine St.WF.keep ?_ ?_ | (first | omega | (simp only [RowOk.lo, nx]; first | done | omega))))⟩
    rfl
end Go.Proofs.YtbcabejdchkpmaaGreatDoor

namespace Go.Proofs.YtbcabejdchkpmaaGreatDoor
open Go.ChangeShapes Go.WideShapes Go.ChangeAt Go.RowKit
set_option maxRecDepth 100000 in
theorem valueEncodes_lifted (os : Os) (started : os.Started) (H : Type) (enc : TypeId × Value → H) :
    ReturnsInHanded {} Tryz.checked os 3 .any (fun w args => (Rows.valueEncodesSpec.pre enc Tryz.prog Tryz.f3 [] false w args ∧ laidMetH Tryz.prog doorLaid w) ∧ sizedMet enc Tryz.prog Tryz.f3 (OpenSpec.ofChange Rows.valueEncodesSpec) false w args)
      (Rows.valueEncodesSpec.post enc Tryz.prog Tryz.f3 false true false false) := by
  refine returnsInHanded_of_change_and (C := Tryz.checked) (X := fun w _ => laidMetH Tryz.prog doorLaid w) (fun _ _ _ hh h => h.of_heap hh) door_own started (by kernel_rfl) Tryz.func3
    (ChangeSpec.witness_at (enc := enc) (C := Tryz.checked) (os := os) (X := fun w _ => laidMetH Tryz.prog doorLaid w) false (laidWorld os) #[.agg #[.int .i64 0, .int .i64 0, .string "".toUTF8, .slice none 0 0, .slice none 0 0, .slice none 0 0]] 8 rfl (by kernel_rfl) (by kernel_rfl) (by kernel_rfl) (by kernel_rfl) (by kernel_rfl) (laidWorld_met os _)) ?_
  intro W base args ds gs before hval0 hW hcnd hsz0 hL _
  have hG := glob_of_laid hL
  have hval : ∀ (j : Nat) t v, Tryz.f3.params[j]? = some t → args[j]? = some v → Value.okWide Tryz.prog W .any base t v := hval0
  have hsz : (DataW.weightsEach Tryz.prog (Tryz.f3.params.toList ++ Rows.valueEncodesSpec.plain.varTypes Tryz.prog) (ds ++ gs)).all (· ≤ reachBytes) = true := hsz0
  have hW' := hW
  obtain ⟨p, q, hA0, hV, rfl, hfz, hnd⟩ := hW
  have hA : DataW.TrodAll enc Tryz.prog W 0 (fun _ => true) true Tryz.f3.params.toList args.toList ds p := hA0
  obtain ⟨rfl, rfl⟩ := trodVars_none hV
  rw [Tryz.params3] at hA hval hsz
  have hA1 := hA
  obtain ⟨v0, vs0, d0, ds0, p0, q0, hargs, rfl, rfl, h0, r0⟩ := trodAll_cons hA
  obtain ⟨rfl, rfl, rfl⟩ := trodAll_nil r0
  obtain rfl : args = #[v0] := by cases args; simp_all
  have z0 : Sized Tryz.prog 26 d0 := sized_of_each (j := 0) hsz rfl rfl
  have k0 : Value.okWide Tryz.prog W .any base 26 v0 := hval 0 _ _ rfl rfl
  clear hA0 hval0 hsz hsz0 hval
  have key : Calls Tryz.prog 3 #[v0] W (Gives (.bool true) W) := by
    obtain ⟨t, ds, rfl, ht⟩ := open_value h0 z0 k0
    exact door_gives (vs := [.agg ds.toArray]) (valueEncodes_d t ht.ok) (by simp only [RepL]; exact ⟨_, _, rfl, rep_val (fun b i _ => fix_nilD b i) ht, rfl⟩) (by intro _ _; kernel_rfl) hG
  refine key.mono fun e W' ⟨he, bel⟩ => ?_
  subst he
  exact ⟨_, rfl, _, _, _, [], _, [], hW', trodAll_mk1 (shut_bool Tryz.underlying4 _), trodAll_below door_laidOut bel (by kernel_rfl) hA1, rfl, bel.frame _, fun h => by cases h⟩

theorem valueEncodes_row : Rows.ValueEncodesSaid :=
  OpenClaim.holds_of_wide 3 Tryz.f3 rfl rfl rfl rfl rfl rfl rfl ⟨rfl, rfl, rfl, rfl, rfl⟩ rfl rfl rfl rfl rfl (by kernel_rfl) Tryz.func3 (by kernel_rfl)
    (of_decide_eq_true (by kernel_rfl)) (by unfold Func.isWrapper; first | (rw [if_pos (by decide +kernel)]; kernel_rfl) | (rw [if_neg (by decide +kernel)]; exact ⟨rfl, rfl⟩))
    (fun os started H enc _ => valueEncodes_lifted os started H enc)
theorem valueEncodes_holds : Rows.ValueEncodesCardSaid :=
  Claim7.holds_tied_plain_at .later [] [.handle] true Rows.valueEncodesCard.stood.harness true
    valueEncodes_row (fun _ h => by cases h) (by kernel_rfl) (fun _ h => by cases h) valueEncodes_row_tie rfl ⟨rfl, rfl⟩ (by kernel_rfl) rfl
    (fun f fn hf hfn => by
      obtain rfl : f = 3 := Option.some.inj ((show Tryz.prog.funcNamed "dioptre/dioptrelaw08.ValueEncodes" = some 3 by kernel_rfl).symm.trans hf) |>.symm
      obtain rfl : fn = Tryz.f3 := (Option.some.inj (Tryz.func3.symm.trans hfn)).symm
      exact ⟨by kernel_rfl, fun j t ht => by
        rw [Tryz.params3] at ht
        have ht' := List.mem_of_getElem? (Array.getElem?_toList ▸ ht)
        simp only [List.mem_cons, List.not_mem_nil, or_false] at ht'
        rcases ht' with rfl <;> exact (show Tryz.prog.wantsStandIn _ = false by kernel_rfl)⟩)
    (by kernel_rfl)
#print axioms valueEncodes_holds
end Go.Proofs.YtbcabejdchkpmaaGreatDoor
