/- RegistryAdds answers true for any schema, any steps and any name, and leaves its arguments as they were. Conditions: none but the statement's own. -/
import Derived.Test.YtogbklnkpjjkoaaGreatDoorW9
import Derived.LaidEql
import Derived.Stop.Asserts
import Derived.RowKitTokens
import Derived.Test.YtogbklnkpjjkoaaGreatDoorCards
import Derived.Test.YtogbklnkpjjkoaaGreatDoorTie
import Derived.SevenTiedAt
import Derived.RowKit
set_option linter.unusedVariables false
set_option linter.unusedSimpArgs false
namespace Go.Proofs.YtogbklnkpjjkoaaGreatDoor
open Go.RowKit Go.Extern.Stop Go.Stop Go.Extern
/-! The value that a tree without memory stands for. -/
mutual
def D.val:D→Option Value
 | .v x=>some x
 | .ifc t d=>(D.val d).map (Value.iface t ·)
 | .agg cs=>(valL cs).bind fun vs=>bif vs.all (·.oneCell') then some (.agg vs.toArray) else none
 | _=>none
def valL:List D→Option (List Value)
 | []=>some []
 | d::l=>(D.val d).bind fun x=>(valL l).map (x::·)
end
section
variable {P : Program} {w : World} {η : Names} {X : Nat → Nat → Prop}
mutual
theorem rep_val_iff:∀ {d:D} {x:Value},D.val d=some x→∀ {y:Value},Rep P w η X d y↔y=x
 | .v x,_,h,y=>by simp only [D.val,Option.some.injEq] at h;subst h;simp only [Rep]
 | .ifc t d,_,h,y=>by
  simp only [D.val,Option.map_eq_some_iff] at h
  obtain ⟨z,h1,rfl⟩:=h
  simp only [Rep]
  constructor
  ·rintro ⟨u,rfl,hu⟩
   rw [(rep_val_iff h1).1 hu]
  ·rintro rfl
   exact ⟨z,rfl,(rep_val_iff h1).2 rfl⟩
 | .agg cs,_,h,y=>by
  simp only [D.val,Option.bind_eq_some_iff] at h
  obtain ⟨vs,h1,h2⟩:=h
  cases hb:vs.all (·.oneCell') with
  | false=>rw [hb] at h2;cases h2
  | true =>
   rw [hb] at h2
   simp only [cond_true,Option.some.injEq] at h2
   subst h2
   simp only [Rep]
   constructor
   ·rintro ⟨us,rfl,hu,_⟩
    rw [(rep_valL_iff h1).1 hu]
   ·rintro rfl
    exact ⟨vs,rfl,(rep_valL_iff h1).2 rfl,fun u hu=>List.all_eq_true.1 hb u hu⟩
 | .tup _,_,h,_=>by simp [D.val] at h
 | .fn _ _ _,_,h,_=>by simp [D.val] at h
 | .loc _ _,_,h,_=>by simp [D.val] at h
 | .rd _ _,_,h,_=>by simp [D.val] at h
 | .sl _ _,_,h,_=>by simp [D.val] at h
 | .win _ _ _ _,_,h,_=>by simp [D.val] at h
theorem rep_valL_iff:∀ {l:List D} {vs:List Value},valL l=some vs→∀ {us:List Value},RepL P w η X l us↔us=vs
 | [],_,h,us=>by simp only [valL,Option.some.injEq] at h;subst h;simp only [RepL]
 | d::l,_,h,us=>by
  simp only [valL,Option.bind_eq_some_iff,Option.map_eq_some_iff] at h
  obtain ⟨x,h1,xs,h2,rfl⟩:=h
  simp only [RepL]
  constructor
  ·rintro ⟨y,ys,rfl,hy,hys⟩
   rw [(rep_val_iff h1).1 hy,(rep_valL_iff h2).1 hys]
  ·rintro rfl
   exact ⟨x,xs,rfl,(rep_val_iff h1).2 rfl,(rep_valL_iff h2).2 rfl⟩
end
end
section
variable {P : Program} {S : St} {K : D → St → Prop}
theorem dext {g:FuncId} {fn:Func} {e:Array Value→Sem Value} (hf:P.funcs[g]? = some fn) (hname:(fn.name == "runtime.NumGoroutine")=false) (hb:fn.body.isNone=true) (hn:Extern.findNext fn=none) (hx:Extern.find fn=some e) {args:List D}
  (h:∀ base η w vs,Mem P base S η w→RepL P w η (Fix P S η) args vs→∃ d S' η' v w',(e vs.toArray).run P w=.ok v w'∧K d S'∧Rep P w' η' (Fix P S' η') d v∧Goes P base S η w S' η' w'):DCalls P g args S K:=fun base η w vs hM hr=>by
 obtain ⟨d,S',η',v,w',h1,h2,h3,h4⟩:=h base η w vs hM hr
 refine .inr ⟨d,S',η',v,w',?_,h2,h3,h4⟩
 rw [run_callFunc_extern hf hname hb hn hx,h1]
 rfl
theorem dext_pure {g:FuncId} {fn:Func} {e:Array Value→Sem Value} (hf:P.funcs[g]? = some fn) (hname:(fn.name == "runtime.NumGoroutine")=false) (hb:fn.body.isNone=true) (hn:Extern.findNext fn=none) (hx:Extern.find fn=some e) {args:List D} {us:List Value} {r:Value} {d:D}
  (hv:valL args=some us) (h:∀ w,(e us.toArray).run P w=.ok r w) (hd:D.val d=some r) (hk:K d S):DCalls P g args S K :=
 dext hf hname hb hn hx fun base η w vs hM hr=>by
  rw [(rep_valL_iff hv).1 hr]
  exact ⟨d,S,η,r,w,h w,hk,(rep_val_iff hd).2 rfl,Goes.refl hM⟩
theorem dmeth_pure {t:TypeId} {d d':D} {m:String} {g:FuncId} {x r:Value} (hd:D.val d=some x) (hd':D.val d'=some r) (h:∀ w,(method (P.types.size+Made.depth) t x m).run P w=.ok (g,r) w):DMeth P t d m g d':=fun w η X v hr=>by
 rw [(rep_val_iff hd).1 hr]
 exact ⟨r,h w,(rep_val_iff hd').2 rfl⟩
end
abbrev tyV (t:TypeId):Value:=.pointer (some ⟨1,t,none⟩)
abbrev tyD (t:TypeId):D:=.agg [.v (tyV t)]
abbrev rtD (t:TypeId):D:=.ifc 153 (tyD t)
theorem rlm (z:Sem Value) (f:TypeId→Addr→Nat→Nat→Sem Value) (v:Value) :
  ReflectliteValue.method z f #[v]=(do match ← ReflectliteValue.parts v with | none=>z | some (t,a,fl)=>f t a fl (fl % 32)):=rfl
theorem rls (v x:Value):ReflectliteValue.set #[v,x]=(do
  let (some (dst,a,fl),some (src,b,_)):=(← ReflectliteValue.parts v,← ReflectliteValue.parts x)
   | unsupported (.noEntry "extern/(internal/reflectlite.Value).Set.zeroValue")
  if fl / ReflectliteValue.flagAddr % 2 == 0 then unsupported (.noEntry "extern/(internal/reflectlite.Value).Set.unaddressable")
  let val ← loadVar src b
  if ← Rtype.directlyAssignable dst src then storeVar dst a val
  else if ← Rtype.implements dst src then
   if (← Rtype.kind src) == 20 then
    match val with
    | .nilIface=>unsupported (.noEntry "extern/reflectlite: a nil value of one interface type handed on as a value of another")
    | _=>storeVar dst a val
   else storeVar dst a (.iface src val)
  else panicString ("reflectlite.Set: value of type " ++ (← Rtype.spelt src) ++ " is not assignable to type " ++ (← Rtype.spelt dst))
  pure (.tuple #[])):=rfl

section
variable {S : St} {K : D → St → Prop}
theorem unpackPEr (a:Addr) (w:World):(ReflectliteValue.unpack (.iface 114 (.pointer (some a)))).run Tryz.prog w=.ok (.agg #[tyV 114,.pointer (some ⟨w.heap.size,0,none⟩),.int .u64 150]) (w.alloc (.cells #[.pointer (some a)] 114)):=by kernel_rfl
theorem rlValueOfPEr {k off:Nat} (h:K (.agg [.v (tyV 114),.loc S.next 0,.v (.int .u64 150)]) (S.add (.box 114 [.loc k off]))):DCalls Tryz.prog 59 [.ifc 114 (.loc k off)] S K :=
 dext (e:=fun args=>ReflectliteValue.unpack (args.getD 0 (.tuple #[]))) Tryz.func59 (by kernel_rfl) (by kernel_rfl) (by kernel_rfl) (by kernel_rfl) fun base η w vs hM hr=>by
  simp only [RepL,Rep] at hr
  obtain ⟨_,_,rfl,⟨_,rfl,b,hb,rfl⟩,rfl⟩:=hr
  have G:=goes_name hM (.box 114 [.loc k off]) #[.pointer (some ⟨b,off,none⟩)] 114 (.inl ⟨_,[.pointer (some ⟨b,off,none⟩)],rfl,rfl,by simp only [RepL,Rep];exact ⟨_,_,rfl,⟨b,hb,rfl⟩,rfl⟩,fun x hx=>by rw [List.mem_singleton] at hx;subst hx;rfl⟩)
  refine ⟨_,_,_,_,_,unpackPEr _ w,h,?_,G⟩
  simp only [Rep,RepL]
  exact ⟨[_,_,_],rfl,⟨_,_,rfl,rfl,_,_,rfl,⟨w.heap.size,by simp only [Names.add,↓reduceIte],rfl⟩,_,_,rfl,rfl,rfl⟩,fun x hx=>by simp only [List.mem_cons,List.not_mem_nil,or_false] at hx;rcases hx with rfl | rfl | rfl <;> rfl⟩
theorem typePEr (a:Addr) (w:World):(ReflectliteValue.methodAny (ReflectliteValue.valueError "reflectlite.Value.Type" 0) (fun t _ _ _=>ReflectliteType.toType t) #[.agg #[tyV 114,.pointer (some a),.int .u64 150]]).run Tryz.prog w=.ok (.iface 153 (.agg #[tyV 114])) w:=by kernel_rfl
theorem rlTypePEr {k off:Nat} (h:K (rtD 114) S):DCalls Tryz.prog 60 [.agg [.v (tyV 114),.loc k off,.v (.int .u64 150)]] S K :=
 dext (e:=ReflectliteValue.methodAny (ReflectliteValue.valueError "reflectlite.Value.Type" 0) (fun t _ _ _=>ReflectliteType.toType t)) Tryz.func60 (by kernel_rfl) (by kernel_rfl) (by kernel_rfl) (by kernel_rfl) fun base η w vs hM hr=>by
  simp only [RepL,Rep] at hr
  obtain ⟨_,_,rfl,⟨_,rfl,⟨_,_,rfl,rfl,_,_,rfl,⟨b,hb,rfl⟩,_,_,rfl,rfl,rfl⟩,_⟩,rfl⟩:=hr
  exact ⟨_,S,η,_,w,typePEr _ w,h,(rep_val_iff (d:=rtD 114) rfl).2 rfl,Goes.refl hM⟩
theorem partsPEr (a:Addr) (w:World):(ReflectliteValue.parts (.agg #[tyV 114,.pointer (some a),.int .u64 150])).run Tryz.prog w=.ok (some (114,a,150)) w:=by kernel_rfl
theorem rlIsNilPEr {b k off:Nat} (hb:S.ob b=some (.box 114 [.loc k off])) (h:K (.v (.bool false)) S):DCalls Tryz.prog 61 [.agg [.v (tyV 114),.loc b 0,.v (.int .u64 150)]] S K :=
 dext (e:=ReflectliteValue.method (ReflectliteValue.valueError "reflectlite.Value.IsNil" 0) ReflectliteValue.isNil) Tryz.func61 (by kernel_rfl) (by kernel_rfl) (by kernel_rfl) (by kernel_rfl) fun base η w vs hM hr=>by
  simp only [RepL,Rep] at hr
  obtain ⟨_,_,rfl,⟨_,rfl,⟨_,_,rfl,rfl,_,_,rfl,⟨q,hq,rfl⟩,_,_,rfl,rfl,rfl⟩,_⟩,rfl⟩:=hr
  obtain ⟨us,g1,g2,g3⟩:=hM.box b _ _ q hb hq
  simp only [RepL,Rep] at g2
  obtain ⟨_,_,rfl,⟨p,hp,rfl⟩,rfl⟩:=g2
  have ha:w.cell? ⟨q,0,none⟩=some (.pointer (some ⟨p,off,none⟩)):=by simp [World.cell?,g1]
  refine ⟨_,S,η,.bool false,w,?_,h,by simp only [Rep],Goes.refl hM⟩
  rw [rlm]
  simp only [Sem.run_bind,partsPEr,Result.andThen]
  simp [ReflectliteValue.isNil,loadVar,isAgg,underlying,Tryz.underlying114,ha,Result.andThen]
theorem elemOfPEr (w:World):(Rtype.elem? 114).run Tryz.prog w=.ok (some 104) w:=by kernel_rfl
theorem mkPEr (p:Addr) (w:World):(ReflectliteValue.mk 104 p ReflectliteValue.flagAddr).run Tryz.prog w=.ok (.agg #[tyV 104,.pointer (some p),.int .u64 386]) w:=by kernel_rfl
theorem rlElemPEr {b k off:Nat} (hb:S.ob b=some (.box 114 [.loc k off])) (h:K (.agg [.v (tyV 104),.loc k off,.v (.int .u64 386)]) S):DCalls Tryz.prog 87 [.agg [.v (tyV 114),.loc b 0,.v (.int .u64 150)]] S K :=
 dext (e:=ReflectliteValue.method (ReflectliteValue.valueError "reflectlite.Value.Elem" 0) ReflectliteValue.elem) Tryz.func87 (by kernel_rfl) (by kernel_rfl) (by kernel_rfl) (by kernel_rfl) fun base η w vs hM hr=>by
  simp only [RepL,Rep] at hr
  obtain ⟨_,_,rfl,⟨_,rfl,⟨_,_,rfl,rfl,_,_,rfl,⟨q,hq,rfl⟩,_,_,rfl,rfl,rfl⟩,_⟩,rfl⟩:=hr
  obtain ⟨us,g1,g2,g3⟩:=hM.box b _ _ q hb hq
  simp only [RepL,Rep] at g2
  obtain ⟨_,_,rfl,⟨p,hp,rfl⟩,rfl⟩:=g2
  have ha:w.cell? ⟨q,0,none⟩=some (.pointer (some ⟨p,off,none⟩)):=by simp [World.cell?,g1]
  refine ⟨_,S,η,.agg #[tyV 104,.pointer (some ⟨p,off,none⟩),.int .u64 386],w,?_,h,?_,Goes.refl hM⟩
  ·rw [rlm]
   simp only [Sem.run_bind,partsPEr,Result.andThen]
   simp [ReflectliteValue.elem,loadVar,isAgg,underlying,Tryz.underlying114,ha,Result.andThen,elemOfPEr,mkPEr]
  ·simp only [Rep,RepL]
   exact ⟨[_,_,_],rfl,⟨_,_,rfl,rfl,_,_,rfl,⟨p,hp,rfl⟩,_,_,rfl,rfl,rfl⟩,fun x hx=>by simp only [List.mem_cons,List.not_mem_nil,or_false] at hx;rcases hx with rfl | rfl | rfl <;> rfl⟩
theorem methKindPEr:DMeth Tryz.prog 153 (tyD 114) "Kind" 193 (.v (tyV 114)):=dmeth_pure rfl rfl fun w=>by kernel_rfl
theorem methKindEr:DMeth Tryz.prog 153 (tyD 104) "Kind" 193 (.v (tyV 104)):=dmeth_pure rfl rfl fun w=>by kernel_rfl
theorem rlKindPEr (h:K (.v (.int .u8 22)) S):DCalls Tryz.prog 193 [.v (tyV 114)] S K :=
 dext_pure (e:=ReflectliteType.abiMethod fun t=>do pure (.int .u8 (← Rtype.kind t))) Tryz.func193 (by kernel_rfl) (by kernel_rfl) (by kernel_rfl) (by kernel_rfl) (r:=.int .u8 22) rfl (fun w=>by kernel_rfl) rfl h
theorem rlKindEr (h:K (.v (.int .u8 2)) S):DCalls Tryz.prog 193 [.v (tyV 104)] S K :=
 dext_pure (e:=ReflectliteType.abiMethod fun t=>do pure (.int .u8 (← Rtype.kind t))) Tryz.func193 (by kernel_rfl) (by kernel_rfl) (by kernel_rfl) (by kernel_rfl) (r:=.int .u8 2) rfl (fun w=>by kernel_rfl) rfl h
theorem methElemPEr:DMeth Tryz.prog 153 (tyD 114) "Elem" 203 (tyD 114):=dmeth_pure rfl rfl fun w=>by kernel_rfl
theorem rlTElemPEr (h:K (rtD 104) S):DCalls Tryz.prog 203 [tyD 114] S K :=
 dext_pure (e:=ReflectliteType.method ReflectliteType.elem) Tryz.func203 (by kernel_rfl) (by kernel_rfl) (by kernel_rfl) (by kernel_rfl) (r:=.iface 153 (.agg #[tyV 104])) rfl (fun w=>by kernel_rfl) rfl h
theorem methImplEr:DMeth Tryz.prog 153 (tyD 104) "Implements" 204 (tyD 104):=dmeth_pure rfl rfl fun w=>by kernel_rfl
theorem rlImplEr (h:K (.v (.bool true)) S):DCalls Tryz.prog 204 [tyD 104,rtD 66] S K :=
 dext_pure (e:=ReflectliteType.relation "Implements" ReflectliteType.implements_) Tryz.func204 (by kernel_rfl) (by kernel_rfl) (by kernel_rfl) (by kernel_rfl) (r:=.bool true) rfl (fun w=>by kernel_rfl) rfl h
theorem methAsgEr:DMeth Tryz.prog 153 (tyD 104) "AssignableTo" 201 (tyD 104):=dmeth_pure rfl rfl fun w=>by kernel_rfl
theorem rlAsgEr (h:K (.v (.bool true)) S):DCalls Tryz.prog 201 [tyD 104,rtD 104] S K :=
 dext_pure (e:=ReflectliteType.relation "AssignableTo" ReflectliteType.assignableTo) Tryz.func201 (by kernel_rfl) (by kernel_rfl) (by kernel_rfl) (by kernel_rfl) (r:=.bool true) rfl (fun w=>by kernel_rfl) rfl h
theorem typeOfEr (x:Value) (w:World):(ReflectliteType.typeOf #[.iface 104 x]).run Tryz.prog w=.ok (.iface 153 (.agg #[tyV 104])) w:=by kernel_rfl
theorem rlTypeOfEr {d:D} (h:K (rtD 104) S):DCalls Tryz.prog 86 [.ifc 104 d] S K :=
 dext (e:=ReflectliteType.typeOf) Tryz.func86 (by kernel_rfl) (by kernel_rfl) (by kernel_rfl) (by kernel_rfl) fun base η w vs hM hr=>by
  simp only [RepL,Rep] at hr
  obtain ⟨_,_,rfl,⟨x,rfl,_⟩,rfl⟩:=hr
  exact ⟨_,S,η,_,w,typeOfEr x w,h,(rep_val_iff (d:=rtD 104) rfl).2 rfl,Goes.refl hM⟩
end
abbrev erD (n:Int):D:=.ifc 104 (.v (.int .i64 n))
section
variable {P : Program} {S : St} {K : D → St → Prop}
end
section
variable {S : St} {K : D → St → Prop} {u : D}
end
theorem unpackEr (n:Int) (w:World):(ReflectliteValue.unpack (.iface 104 (.int .i64 n))).run Tryz.prog w=.ok (.agg #[tyV 104,.pointer (some ⟨w.heap.size,0,none⟩),.int .u64 130]) (w.alloc (.cells #[.int .i64 n] 104)):=by kernel_rfl
section
variable {S : St} {K : D → St → Prop}
theorem rlValueOfEr {n:Int} (h:K (.agg [.v (tyV 104),.loc S.next 0,.v (.int .u64 130)]) (S.add (.box 104 [.v (.int .i64 n)]))):DCalls Tryz.prog 59 [erD n] S K :=
 dext (e:=fun args=>ReflectliteValue.unpack (args.getD 0 (.tuple #[]))) Tryz.func59 (by kernel_rfl) (by kernel_rfl) (by kernel_rfl) (by kernel_rfl) fun base η w vs hM hr=>by
  simp only [RepL,Rep] at hr
  obtain ⟨_,_,rfl,⟨_,rfl,rfl⟩,rfl⟩:=hr
  have G:=goes_name hM (.box 104 [.v (.int .i64 n)]) #[.int .i64 n] 104 (.inl ⟨_,[.int .i64 n],rfl,rfl,by simp only [RepL,Rep];exact ⟨_,_,rfl,rfl,rfl⟩,fun x hx=>by rw [List.mem_singleton] at hx;subst hx;rfl⟩)
  refine ⟨_,_,_,_,_,unpackEr _ w,h,?_,G⟩
  simp only [Rep,RepL]
  exact ⟨[_,_,_],rfl,⟨_,_,rfl,rfl,_,_,rfl,⟨w.heap.size,by simp only [Names.add,↓reduceIte],rfl⟩,_,_,rfl,rfl,rfl⟩,fun x hx=>by simp only [List.mem_cons,List.not_mem_nil,or_false] at hx;rcases hx with rfl | rfl | rfl <;> rfl⟩
end

theorem partsEra (a:Addr) (w:World):(ReflectliteValue.parts (.agg #[tyV 104,.pointer (some a),.int .u64 386])).run Tryz.prog w=.ok (some (104,a,386)) w:=by kernel_rfl
theorem partsEr (a:Addr) (w:World):(ReflectliteValue.parts (.agg #[tyV 104,.pointer (some a),.int .u64 130])).run Tryz.prog w=.ok (some (104,a,130)) w:=by kernel_rfl
theorem directEr (w:World):(Rtype.directlyAssignable 104 104).run Tryz.prog w=.ok true w:=by kernel_rfl
theorem sizeEr (w:World):(sizeOf 104).run Tryz.prog w=.ok 1 w:=by kernel_rfl
theorem setEr {b a:Nat} {x:Value} {n:Int} {W:World} (hb:W.heap[b]? = some (.cells [x].toArray 104 (0,0))) (ha:W.cell? ⟨a,0,none⟩=some (.int .i64 n)) :
  (ReflectliteValue.set #[.agg #[tyV 104,.pointer (some ⟨b,0,none⟩),.int .u64 386],.agg #[tyV 104,.pointer (some ⟨a,0,none⟩),.int .u64 130]]).run Tryz.prog W=.ok (.tuple #[]) (W.setRow b [.int .i64 n].toArray):=by
 have q:=run_storeCells_at Tryz.prog b 0 104 [.int .i64 n] 0 [x].toArray W hb (by simp) (by simp [Value.oneCell'])
 rw [rls]
 simp only [Sem.run_bind,partsEra,partsEr,Result.andThen]
 simp [ReflectliteValue.flagAddr,loadVar,isAgg,underlying,Tryz.underlying104,ha,Result.andThen,directEr,storeVar,sizeEr,Value.cells] at q ⊢
 simp [q]
theorem rlSetEr {S:St} {K:D→St→Prop} {a b:Nat} {d0:D} {n:Int} (hb:S.ob b=some (.box 104 [d0])) (ha:S.ob a=some (.box 104 [.v (.int .i64 n)])) (h:K (.tup []) (S.set b (.box 104 [.v (.int .i64 n)]))) :
  DCalls Tryz.prog 88 [.agg [.v (tyV 104),.loc b 0,.v (.int .u64 386)],.agg [.v (tyV 104),.loc a 0,.v (.int .u64 130)]] S K :=
 dext (e:=ReflectliteValue.set) Tryz.func88 (by kernel_rfl) (by kernel_rfl) (by kernel_rfl) (by kernel_rfl) fun base η w vs hM hr=>by
  simp only [RepL,Rep] at hr
  obtain ⟨_,_,rfl,⟨_,rfl,⟨_,_,rfl,rfl,_,_,rfl,⟨q,hq,rfl⟩,_,_,rfl,rfl,rfl⟩,_⟩,_,_,rfl,⟨_,rfl,⟨_,_,rfl,rfl,_,_,rfl,⟨p,hp,rfl⟩,_,_,rfl,rfl,rfl⟩,_⟩,rfl⟩:=hr
  obtain ⟨us,g1,g2,g3⟩:=hM.box b _ _ q hb hq
  obtain ⟨us',k1,k2,k3⟩:=hM.box a _ _ p ha hp
  simp only [RepL] at g2
  obtain ⟨x,_,rfl,hx,rfl⟩:=g2
  simp only [RepL] at k2
  obtain ⟨y,_,rfl,hy,rfl⟩:=k2
  have hy0:=hy
  simp only [Rep] at hy
  subst hy
  have hc:w.cell? ⟨p,0,none⟩=some (.int .i64 n):=by simp [World.cell?,k1]
  have G:=goes_set hM (cs':=[.v (.int .i64 n)]) (vs':=[_]) hb hq rfl (by simp only [RepL];exact ⟨_,_,rfl,hy0,rfl⟩) k3
  exact ⟨_,_,_,_,_,setEr g1 hc,h,by simp only [Rep,RepL];exact ⟨[],rfl,rfl⟩,G⟩

end Go.Proofs.YtogbklnkpjjkoaaGreatDoor
namespace Go.Proofs.YtogbklnkpjjkoaaGreatDoor
open Go.RowKit
theorem bnil_eq0 (k:Nat):dbin Tryz.prog .eql 66 (.tmp k) (.const .nilIface) (.v .nilIface) (.v .nilIface)=some (True,.v (.bool true)):=by kernel_rfl
set_option maxRecDepth 200000 in
set_option maxHeartbeats 4000000 in
theorem as0Walk {S:St} {n:Int} {x0:D} {kb kc:Nat} {K:D→St→Prop} (hk:S.ob kc=some (.box 104 [x0])) (hb:S.ob kb=some (.box 114 [.loc kc 0]))
  (h:∀ T,S.next≤T.next→T.WF→(∀ j o,j ≠ kc→S.ob j=some o→T.ob j=some o)→T.ob kc=some (.box 104 [.v (.int .i64 n)])→K (.v (.bool true)) T) :
  DCalls Tryz.prog 62 [erD n,.ifc 114 (.loc kc 0),.agg [.v (tyV 114),.loc kb 0,.v (.int .u64 150)],rtD 104] S K:=by
 refine dcalls_inline mixed Tryz.func62 rfl (fun _ _=>by kernel_rfl) (rs:=[.tmp 8]) rfl (by kernel_rfl) (fun hS=>?_)
 (refine dd0 ?_)
 (refine dloop_st (fun t=>List.contains [0,8,9,10,11,12,14,15,16,17,18,19,20,21,22,23,24,25,26,27,28,29,30,31,32,33,34,35,36,37,38,39,40,41,42,43,44,45,46,47,48,49,50,51,52,53,54,55,56,57,58,59,60,61] t) (by kernel_rfl) ?_ (0) (fun i f=>i≤0∧f 0=erD n∧f 8=.v (.bool false)) ?_ ?_;(exact wfA);(exact ⟨(by omega),(by exact di0),(by exact di0)⟩);intro i g tn hn hT hg hI;obtain ⟨le,q0,q8⟩:=hI;have q1:=hg 1 rfl;have q3:=hg 3 rfl;have q6:=hg 6 rfl;simp (disch:=first | decide | omega | (simp only [nx];first | done | omega)) only [go_sem] at q1 q3 q6;clear hg;have hn':=hn;try simp only [add_next,set_next,grow_next,leave_next,drop_next] at hn')
 have hB:∀ j o,S.ob j=some o→(St.mk tn (S.add (.box 128 [.v (tyV 114),.loc kb 0,.v (.int .u64 150)])).ob).ob j=some o:=fun j o ho=>by
  have hkl:=hS.lt ho
  show (if j=S.next then _ else S.ob j)=_
  rw [if_neg (by omega),ho]
 (refine dd4 @q0 @q1 @q3 @q6 ?_)
 refine rlTypeOfEr ?_
 (refine dd4 @q0 @q1 @q3 @q6 ?_)
 refine dinvoke_mk methAsgEr (rlAsgEr ?_)
 (refine dd4 @q0 @q1 @q3 @q6 ?_)
 refine rlElemPEr (hB _ _ hb) ?_
 (refine dd4 @q0 @q1 @q3 @q6 ?_)
 refine rlValueOfEr ?_
 (refine dd4 @q0 @q1 @q3 @q6 ?_)
 have hkc:=hS.lt hk
 have hkn:kc ≠ tn:=by omega
 refine rlSetEr (d0:=x0) (n:=n) ?_ ?_ ?_
 ·show (if kc=tn then _ else _)=_
  rw [if_neg hkn];exact hB _ _ hk
 ·show (if tn=tn then _ else _)=_
  rw [if_pos rfl]
 (refine dd4 @q0 @q1 @q3 @q6 ?_)
 refine h _ ?_ ?_ (fun j o hj ho=>?_) ?_
 ·show S.next≤tn+1
  omega
 ·exact wfA
 ·show (if j=kc then _ else if j=tn then _ else _)=_
  have:=hS.lt ho
  rw [if_neg hj,if_neg (by omega)];exact hB _ _ ho
 ·show (if kc=kc then _ else _)=_
  rw [if_pos rfl]
set_option maxRecDepth 200000 in
set_option maxHeartbeats 4000000 in
theorem as0 {S:St} {n:Int} {x0:D} {kc:Nat} {K:D→St→Prop} (hk:S.ob kc=some (.box 104 [x0]))
  (h:∀ T,S.next≤T.next→T.WF→(∀ j o,j ≠ kc→S.ob j=some o→T.ob j=some o)→T.ob kc=some (.box 104 [.v (.int .i64 n)])→K (.v (.bool true)) T) :
  DCalls Tryz.prog 48 [erD n,.ifc 114 (.loc kc 0)] S K:=by
 refine dcalls_inline mixed Tryz.func48 rfl (fun _ _=>by kernel_rfl) (rs:=[.tmp 4]) rfl (by kernel_rfl) (fun hS=>?_)
 unfold erD
 (refine dd0 ?_)
 refine rlValueOfPEr ?_
 (refine dd0 ?_)
 refine rlTypePEr ?_
 (refine dd0 ?_)
 have k22:((22:Int) != 22)=false:=by decide
 have k20:((2:Int) != 20)=true:=by decide
 refine dinvoke_mk methKindPEr (rlKindPEr ?_)
 (refine dd1 @k22 ?_)
 refine rlIsNilPEr (k:=kc) (off:=0) ?_ ?_
 ·exact di0
 (refine dd1 @k22 ?_)
 refine dinvoke_mk methElemPEr (rlTElemPEr ?_)
 (refine dd0 ?_)
 refine dinvoke_mk methKindEr (rlKindEr ?_)
 (refine dd1 @k20 ?_)
 refine dinvoke_mk methImplEr (rlImplEr ?_)
 (refine dd0 ?_)
 have hkc:=hS.lt hk
 have hB:∀ j o,S.ob j=some o→(((S.add (.box 114 [.loc kc 0])).add (.box 128 [.v (.pointer none),.v (.pointer none),.v (.int .u64 0)])).set (S.next+1) (.box 128 [.v (tyV 114),.loc S.next 0,.v (.int .u64 150)])).ob j=some o:=fun j o ho=>by
  have hkl:=hS.lt ho
  show (if j=S.next+1 then _ else if j=S.next+1 then _ else if j=S.next then _ else S.ob j)=_
  rw [if_neg (by omega),if_neg (by omega),if_neg (by omega),ho]
 refine as0Walk (hB _ _ hk) (kb:=S.next) ?_ fun T t1 t2 t3 t4=>?_
 ·exact di0
 (refine dd0 ?_)
 exact h T (by have:S.next+1+1≤T.next:=t1;omega) t2 (fun j o hj ho=>t3 j o hj (hB _ _ ho)) t4
theorem code0_nil:DPure Tryz.prog 30 [.v .nilIface] (.v (.int .i64 0)):=by
 refine dpure_of_dwp mixed Tryz.func30 rfl (fun _ _=>by kernel_rfl) (rs:=[.tmp 2]) rfl (by kernel_rfl) trivial (fun S hS=>?_)
 (refine dd1 @bnil_eq0 ?_)
 refine pendL ?_
 rfl
theorem code0_er (n:Int):DPure Tryz.prog 30 [erD n] (.v (.int .i64 n)):=by
 refine dpure_of_dwp mixed Tryz.func30 rfl (fun _ _=>by kernel_rfl) (rs:=[.tmp 2]) rfl (by kernel_rfl) trivial (fun S hS=>?_)
 unfold erD
 (refine dd0 ?_)
 refine as0 (x0:=.v (.int .i64 0)) ?_ fun T t1 t2 t3 t4=>?_
 ·show (if S.next=S.next then _ else _)=_
  rw [if_pos rfl]
 (refine dd1 @t4 ?_)
 have hsub:S.Sub T:=⟨by have:S.next+1≤T.next:=t1;omega,fun j o ho=>t3 j o (by have:=hS.lt ho;omega) (by have:=hS.lt ho;show (if j=S.next then _ else _)=_;rw [if_neg (by omega),ho])⟩
 refine pendL ?_
 rfl
def fromN (vs:List DVer) (b:UInt8):H32:=if b.toNat<250 then nmAt vs (b.toNat % vs.length) else rgH 98
noncomputable def stepR (vs:List DVer) (x:DRst):List DVer × Int:=addR vs x.name (fromN vs x.frm) x.lens (tgS x.lens)
noncomputable def mdV (s:DSch) (ls:List DRst) (i:Nat):List DVer:=(ls.take i).foldl (fun vs x=>(stepR vs x).1) [rootV (rgH 99) s]
theorem mdV_succ {s:DSch} {ls:List DRst} {i:Nat} (h:i<ls.length):mdV s ls (i+1)=(stepR (mdV s ls i) ls[i]).1:=by
 rw [mdV,List.take_succ_eq_append_getElem h,List.foldl_append];rfl
theorem stepR_len (vs:List DVer) (x:DRst):(stepR vs x).1.length≤vs.length+1:=by
 rcases addR_cases vs x.name (fromN vs x.frm) x.lens (tgS x.lens) with ⟨e,_⟩ | ⟨k,hk,_,_,_,e⟩
 ·rw [stepR,e];omega
 ·rw [stepR,e];simp
theorem mdV_len (s:DSch) (ls:List DRst):∀ i,i≤ls.length→(mdV s ls i).length≤i+1
 | 0,_=>Nat.le_refl _
 | i+1,h=>by
  have ih:=mdV_len s ls i (by omega)
  have:=stepR_len (mdV s ls i) (ls[i]'(by omega))
  rw [mdV_succ (by omega)]
  omega
theorem mdV_ok {s:DSch} {ls:List DRst} (hs:okS s) (hr:rightS 5 s=true) (hl:∀ x∈ls,okL x.lens∧roomL 8 x.lens=true):∀ i,i≤ls.length→OkR (mdV s ls i)
 | 0,_=>okR_root hs hr
 | i+1,h=>by
  have ih:=mdV_ok hs hr hl i (by omega)
  have hx:=hl _ (List.getElem_mem (show i<ls.length by omega))
  rw [mdV_succ (by omega)]
  exact addR_ok ih _ _ _ hx.1 hx.2
theorem codeO (n:Int):DPure Tryz.prog 30 [erO' n] (.v (.int .i64 n)):=by
 unfold erO'
 by_cases h:n=0
 ·rw [if_pos h,h];exact code0_nil
 ·rw [if_neg h];exact code0_er n
attribute [local go_sem] cl_Sp okCell_Sp cl_RV okCell_RV
def MadeK (s:DSch) (ls:List DRst) (S:St) (d:D) (T:St):Prop :=
 if s.kind=5∧rightS 5 s=true then ∃ k F,d=.tup [.loc k 0,.sl .no ((rvs (mdV s ls ls.length)).map encRV),.v (.bool true)]∧RegAt k F (mdV s ls ls.length) T∧(∀ q,F q→S.next≤q)∧S.Sub T
 else d=.tup [.v (.pointer none),.sl .full [],.v (.bool true)]∧S.Sub T
section
set_option maxRecDepth 200000
set_option maxHeartbeats 8000000
theorem made_a {S:St} (s:DSch) (own:Own) (ls:List DRst) (hs:okS s) (hw:s.weight≤1000000) (hl:ls.length≤14) (hok:∀ x∈ls,okL x.lens∧roomL 8 x.lens=true) :
  DCalls Tryz.prog 11 [encS s,.sl own (ls.map encSp)] S (MadeK s ls S):=by
 refine dcalls_inline mixed Tryz.func11 rfl (fun _ _=>by kernel_rfl) (rs:=[.tmp 4,.tmp 5,.tmp 6]) rfl (by kernel_rfl) (fun hS=>?_)
 (refine dd1 @placeR ?_)
 generalize hX:St.set (St.add (St.add S _) _) _ _=S1
 have hs1:S.Sub S1:=by rw [← hX];exact (((St.Sub.refl S).add hS _).add hS _).set hS (by omega) _
 have hW1:S1.WF:=by rw [← hX];exact ((hS.add _).add _).set (by show S.next+1<S.next+1+1;omega) _
 have hn1:S1.next=S.next+2:=by rw [← hX];rfl
 have b2:S1.ob S.next=some (.box 25 (encS s).cells):=by rw [← hX];exact di0
 have b7:S1.ob (S.next+1)=some (.box 39 ((rgH 99).1.map bD)):=by rw [← hX];exact di0
 clear hX
 have l99:=(rgH 99).2
 have hsd:=DSch.depth_weight s.depth s (Nat.le_refl _)
 refine dcalls_argEq (args':=[encH (rgH 99),encS s]) (by simp only [frzL,frz_encS];rfl) ?_
 refine DCalls.mono (DCalls.wf (new_a (rgH 99) s hs hw)) ?_
 rintro d T0 ⟨⟨hd,hs0⟩,hT0⟩
 have c2:=hs0.ob _ _ b2
 have c7:=hs0.ob _ _ b7
 have e20:(s.kind == 5 && rightS 5 s)=decide (s.kind=5∧rightS 5 s=true):=by
  rw [Bool.eq_iff_iff,Bool.and_eq_true,beq_iff_eq,decide_eq_true_eq]
 by_cases hR:s.kind=5∧rightS 5 s=true
 ·rw [if_pos hR] at hd
  obtain ⟨k,F0,rfl,hr0,hF0⟩:=hd
  rw [decide_eq_true hR] at e20
  (refine dd1 @c2 ?_)
  refine DCalls.of_pure (right20_d s hs (by omega)) ?_
  rw [e20]
  (refine dd4 @rnil_ne @c2 @c7 @l99 ?_)
  refine DCalls.of_pure (new20_d (rgH 99) s) ?_
  (refine dd0 ?_)
  have hsT0:=hs1.trans hs0
  have hn0:=hs0.next
  have hmok:=mdV_ok (ls:=ls) hs hR.2 hok
  refine dloop_up (fun t=>List.contains [4,5,6,10,11,12,13,14,15,16,43,44,45,46,47,48,49,50,51,52,53,54,55,56,57,58,59,60,61,62,63,64,65,66,67,68,69,70,71,72,73,74,75,76,77,78,79,80,81,82,83,84,85,86,87,88,89,90,91,92,93,94,95,96,97,98,99,100,101] t) (by kernel_rfl) hT0 ls.length (fun i q T=>i≤ls.length∧q 11=.v (.int .i64 ((i:Nat):Int))∧q 10=.sl .no ((rvs (mdV s ls i)).map encRV)∧S.Sub T∧S1.next≤T.next∧∃ F,RegAt k F (mdV s ls i) T∧∀ x,F x→S1.next≤x)
   ⟨Nat.zero_le _,by exact di0,by simp (disch:=first | decide | omega | (simp only [nx];first | done | omega)) only [go_sem];rfl,hsT0,hn0,F0,hr0,hF0⟩ ?_
  rintro i q T hT hg ⟨le,q11,q10,hsT,hnT,F,hrT,hF⟩
  (have q1:=hg 1 rfl;have q8:=hg 8 rfl;simp (disch:=first | decide | omega | (simp only [nx];first | done | omega)) only [go_sem] at q1 q8;clear hg)
  by_cases hlt:i<ls.length
  ·have d1:decide ((i:Int)<(ls.length:Int))=true:=decide_eq_true (by omega)
   have w1:IntKind.i64.wrap ((i:Int)+1)=((i+1:Nat):Int):=IntWalk.i64_in _ ⟨by omega,by omega⟩
   have hget:=getD_map encSp ls i hlt
   have hb:bD ls[i].frm=.v (.int .u8 ((ls[i].frm.toNat:Nat):Int)):=rfl
   have hfl:ls[i].frm.toNat<256:=UInt8.toNat_lt _
   have w2:IntKind.i64.wrap ((ls[i].frm.toNat:Nat):Int)=((ls[i].frm.toNat:Nat):Int):=IntWalk.i64_in _ ⟨by omega,by omega⟩
   (refine dd11 @q1 @q11 @d1 @placeR @hget @hlt @sp_frm @hb @w2 @cv_u8 @Option.map_some.{0,0} ?_)
   generalize hX:St.set (St.add T _) _ _=T1
   have h01:T.Sub T1:=by rw [← hX];exact ((St.Sub.refl T).add hT _).set hT (Nat.le_refl _) _
   have hW1':T1.WF:=by rw [← hX];exact (hT.add _).set (Nat.lt_succ_self _) _
   have b12:T1.ob T.next=some (.box 39 ((rgH 98).1.map bD)):=by rw [← hX];exact di0
   clear hX
   have ovs:=hmok i (by omega)
   have lvs:=mdV_len s ls i (by omega)
   have pvs:=ovs.pos
   have e1:=mdV_succ (s:=s) hlt
   generalize mdV s ls i=vs at *
   refine dIf_cut (fun f' T'=>f' 1=.sl own (ls.map encSp)∧f' 8=.loc k 0∧f' 10=.sl .no ((rvs vs).map encRV)∧f' 11=.v (.int .i64 ((i:Nat):Int))∧f' 12=.loc T.next 0∧T'.WF∧T.Sub T'∧T'.ob T.next=some (.box 39 ((fromN vs ls[i].frm).1.map bD))) ?_ ?_
   ·by_cases h250:ls[i].frm.toNat<250
    ·have d2:decide (((ls[i].frm.toNat:Nat):Int)<250)=true:=decide_eq_true (by omega)
     have hm:ls[i].frm.toNat % vs.length<vs.length:=Nat.mod_lt _ pvs
     have hm2:ls[i].frm.toNat % vs.length<(rvs vs).length:=by rw [rvs_len];exact hm
     have hg2:=getD_map encRV (rvs vs) _ hm2
     have hfr:fromN vs ls[i].frm=nmAt vs (ls[i].frm.toNat % vs.length):=by rw [fromN,if_pos h250]
     have hnm:(rvs vs)[ls[i].frm.toNat % vs.length].name=nmAt vs (ls[i].frm.toNat % vs.length):=by rw [rvs_get hm,nmAt_lt hm];rfl
     have hrem:∀ {x y:Operand},dbin Tryz.prog .rem 3 x y (.v (.int .i64 ((ls[i].frm.toNat:Nat):Int))) (.v (.int .i64 ((vs.length:Nat):Int)))=some (True,.v (.int .i64 ((ls[i].frm.toNat % vs.length:Nat):Int))):=fun {x y}=>bin_rem _ _ _ (by omega)
     have hln:=rvs_len vs
     have l32:=((rvs vs)[ls[i].frm.toNat % vs.length]).name.2
     have l98:=(rgH 98).2
     have hdr:List.drop 32 ((rgH 98).1.map bD)=[]:=List.drop_of_length_le (by rw [len_encH];omega)
     (simp (disch:=first | decide | omega | (simp only [nx];first | done | omega)) only [go_sem,d2,q10,hln,hrem,hg2,hm2,rv_name,b12,l32,l98,hdr,List.append_nil,q1,q8,q11];(repeat with_reducible refine aI ?_))
     exact ⟨hW1'.set (by have:=hW1'.lt b12;omega) _,h01.set hT (Nat.le_refl _) _,by rw [hfr,← hnm]⟩
    ·have d2:decide (((ls[i].frm.toNat:Nat):Int)<250)=false:=decide_eq_false (by omega)
     have hfr:fromN vs ls[i].frm=rgH 98:=by rw [fromN,if_neg h250]
     (refine dd5 @d2 @q1 @q8 @q10 @q11 ?_)
     rw [hfr];exact b12
   ·rintro f' T' ⟨f1,f8,f10,f11,f12,hW',hs',b'⟩
    have hx:=hok _ (List.getElem_mem hlt)
    generalize hfv:fromN vs ls[i].frm=fv at *
    have lfv:=fv.2
    have lnm:=ls[i].name.2
    have hrT':=hrT.sub hs'
    (refine dd0 ?_)
    refine ddraw_any (fun S'=>S'.ob T.next=some (.box 39 (fv.1.map bD))) 14 (by exact di1 @b') (by kernel_rfl) ?_
    (have F:=pk10 @f1 @f8 @f11 @f12 @hget @hlt @sp_name @sp_lens @lfv @lnm;refine stq F 0 ?_;refine stq F 1 ?_;refine stq F 2 ?_;refine stq F 3 ?_;refine stq F 4 ?_;refine stq F 5 ?_;refine stq F 6 ?_;refine stq F 7 ?_;refine stq F 8 ?_;refine stq F 9 ?_;refine stq F 10 ?_;refine stq F 11 ?_;clear F)
    (refine s_one 12 ?_;(refine dd0 ?_))
    refine DCalls.mono (DCalls.wf (add_d hrT' ovs (by omega) ls[i].name fv ls[i].lens hx.2 hx.1)) ?_
    rintro d T2 ⟨⟨rfl,F2,hr2,hF2,hfr2⟩,hT2⟩
    have hTn:=hs'.next
    have b2':=hfr2.ob _ _ (fun h=>by have:=hrT.lt _ h;omega) b'
    refine ⟨b2',?_⟩
    (have F:=trivial;refine stq F 13 ?_;clear F)
    (refine s_done (by kernel_rfl) ?_;(refine dd0 ?_))
    have hae:=refAddR_eq ovs.wf ls[i].name fv ls[i].lens
    have hst:stepR vs ls[i]=addR vs ls[i].name fv ls[i].lens (tgS ls[i].lens):=by rw [stepR,hfv]
    rw [hst] at e1
    refine ddraw_mk 18 (by kernel_rfl) ?_
    (refine dd12 @f1 @f8 @f10 @f11 @f12 @b2' @hget @hlt @sp_name @sp_lens @lfv @lnm ?_)
    refine dqgo_mk (refAdd_d .no (rvs vs) ls[i].name fv ls[i].lens (by rw [rvs_len];omega) hx.2 hx.1 (rvs_sch ovs)) ?_
    rw [hae]
    (refine dd2 @f8 @f11 ?_)
    refine DCalls.of_pure (codeO _) ?_
    (refine dd4 @f8 @f11 @w1 @bne_self_eq_false.{0} ?_)
    have hsT2:S.Sub T2:=⟨by have:=hsT.next;have:=hfr2.next;omega,fun j o e=>hfr2.ob _ _ (fun h=>by have:=hF _ h;have:=hS.lt e;omega) (hs'.ob _ _ (hsT.ob _ _ e))⟩
    refine ⟨hlt,T2.ob,fun _ _ h=>h,by omega,by exact di1 @w1,?_,hsT2,by have:=hfr2.next;show S1.next≤T2.next;omega,F2,?_,fun x h=>?_⟩
    ·rw [e1]
     exact di0
    ·rw [e1];exact hr2
    ·rcases hF2 x h with h | h
     ·exact hF x h
     ·omega
  ·have d1:decide ((i:Int)<(ls.length:Int))=false:=decide_eq_false (by omega)
   have hi:i=ls.length:=by omega
   subst hi
   (refine dd5 @q1 @q11 @q10 @q8 @d1 ?_)
   unfold MadeK
   rw [if_pos hR]
   exact ⟨k,F,rfl,hrT,fun x h=>by have:=hF x h;omega,hsT⟩
 ·rw [if_neg hR] at hd
  subst hd
  rw [decide_eq_false hR] at e20
  have z1:((1:Int) == 1)=true:=by decide
  have np:∀ {x y:Operand},dbin Tryz.prog .eql 30 x y (.v (.pointer none)) (.v (.pointer none))=some (True,.v (.bool true)):=fun {x y}=>by kernel_rfl
  (refine dd1 @c2 ?_)
  refine DCalls.of_pure (right20_d s hs (by omega)) ?_
  rw [e20]
  (refine dd1 @np ?_)
  refine DCalls.of_pure (code0_er 1) ?_
  (refine dd1 @z1 ?_)
  unfold MadeK
  rw [if_neg hR]
  exact ⟨rfl,hs1.trans hs0⟩
end
end Go.Proofs.YtogbklnkpjjkoaaGreatDoor
namespace Go.Proofs.YtogbklnkpjjkoaaGreatDoor
open Go.RowKit
theorem DCalls.finP {P:Program} {g:FuncId} {args:List D} {S:St} {K:D→St→Prop} (h:DCalls P g args S fun d T=>DFinT P S T d K):DCalls P g args S K:=fun base η w vs hM hr=>by
 rcases h base η w vs hM hr with ⟨h1,h2⟩ | ⟨d,S',η',v,w',h1,⟨S1,d1,t1,d',S'',q1,q2,q3,q4,q5,q6⟩,h3,h4⟩
 ·refine .inl ⟨h1,h2.mono fun e w' ⟨d,S',η',v,⟨S1,d1,t1,d',S'',q1,q2,q3,q4,q5,q6⟩,he,h3,h4⟩=>?_⟩
  obtain ⟨η3,t2,t3⟩:=t1 _ _ _ _ h4.mem h3
  obtain ⟨g1,g2⟩:=goes_fin hM (h4.trans t2) q3 q4 q5
  exact ⟨d',S'',_,v,q6,he,g2 d' v q2 (q1 _ _ _ _ _ t3),g1⟩
 ·obtain ⟨η3,t2,t3⟩:=t1 _ _ _ _ h4.mem h3
  obtain ⟨g1,g2⟩:=goes_fin hM (h4.trans t2) q3 q4 q5
  exact .inr ⟨d',S'',_,v,w',h1,q6,g2 d' v q2 (q1 _ _ _ _ _ t3),g1⟩
theorem DCalls.at {P:Program} {g:FuncId} {args:List D} {S:St} {d:D} (hc:d.closed) (h:DCalls P g args S fun d' T=>d'.frz=d∧S.Sub T):DAt P g args S d:=fun base η w vs hM hr =>
 DCalls.finP (h.mono fun d' T ⟨h1,h2⟩=>DFin.t ⟨d,S,h1 ▸ DLe.frz _,D.all_mono (fun _ h=>h.elim) hc,h2.next,Nat.le_refl _,fun k o hk=>⟨h2.ob k o hk,(show S.WF from hM.fresh).lt hk,fun _ _ _=>.inl hk⟩,rfl,rfl⟩) base η w vs hM hr
theorem DAt.st {P:Program} {g:FuncId} {args:List D} {S:St} {d:D} (h:∀ T,S.Sub T→DAt P g args T d):DSt P g args S d:=fun T hn ho=>h T ⟨hn,ho⟩
theorem dapp_moreR {P:Program} {S:St} {t ty e:TypeId} {own own2:Own} {es es2:List D} {K:D→St→Prop} (he:elT P t=some e) (hz:zeroT P e=true) (h:own=.full∨∃ g,own=.row g∧S.ob g=some (.row e es.length)) (hw:∀ d∈es,d.width=szOf P e) (hx:∀ d∈es2,d.width=szOf P e)
  (hb:es.length+es2.length≤140737488355328) (hb2:(es.length+es2.length) * bytesOf P e≤140737488355328) (k:K (.sl (.row S.next) (es++es2)) (S.grow own e (es.length+es2.length))):dapp P S t t ty (.sl own es) (.sl own2 es2) K:=by
 refine dapp_row ?_
 simp only [dappend,he,hz,true_and,Option.isSome_some]
 refine ⟨hw,hx,?_,hb,hb2,k⟩
 rcases h with rfl | ⟨g,rfl,h⟩
 ·trivial
 ·exact h
theorem frz_slH (own:Own) (l:List H32):(D.sl own (l.map encH)).frz=.sl .no (l.map encH):=by
 rw [D.frz,frzL_map,List.map_map]
 congr 1
 exact List.map_congr_left fun p _=>frz_encH p
theorem frz_Ns (own:Own) (l:List Nat):(D.sl own (l.map nD)).frz=.sl .no (l.map nD):=by
 rw [D.frz,frzL_map,List.map_map]
 rfl
theorem closed_Ns (l:List Nat):(D.sl .no (l.map nD)).closed:=by
 simp only [D.closed,D.all,Own.all,true_and]
 exact allL_iff.2 fun d hd=>by obtain ⟨v,_,rfl⟩:=List.mem_map.1 hd;simp [nD,iD,D.all]
theorem bDs_closed (l:List UInt8):allL (fun _=>False) (l.map bD):=allL_iff.2 fun d hd=>by obtain ⟨b,_,rfl⟩:=List.mem_map.1 hd;simp [bD,D.all]
theorem depth_dt {S:St} {k:Nat} {F:Nat→Prop} {vs:List DVer} (hr:RegAt k F vs S) (hl:vs.length≤1000000) {h:H32} {a:Nat} (ha:findR vs h=some a) (m:Nat) (f:Nat→Nat) (hm:m≤1000000) (f0:f 0=a) (fm:f m<vs.length∧upOf vs (f m)<0) (hf:∀ i,i<m→f i<vs.length∧upOf vs (f i)=(f (i+1):Int)) :
  DAt Tryz.prog 25 [.loc k 0,encH h] S (.v (.int .i64 ((m:Nat):Int))) :=
 DCalls.at trivial ((depth_at hr hl ha m f hm f0 fm hf).mono fun d T ⟨hd,hs⟩=>⟨by rw [hd];rfl,hs⟩)
end Go.Proofs.YtogbklnkpjjkoaaGreatDoor
namespace Go.Proofs.YtogbklnkpjjkoaaGreatDoor
def upN (vs:List DVer) (i:Nat):Nat:=(upOf vs i).toNat
theorem upN_lt {vs:List DVer} (hw:WfR vs) {i:Nat} (h:i<vs.length) (h0:0<i):upN vs i<i∧upOf vs i=(upN vs i:Int):=by
 have:=(hw.up i h).2 h0
 unfold upN
 omega
/-! What the walk tells leads along. -/
/-! A version, of what it was made, and so on. -/
def upL (vs:List DVer) (i:Nat):List Nat:=i::(if upN vs i<i then upL vs (upN vs i) else [])
termination_by i
theorem upL_zero (vs:List DVer):upL vs 0=[0]:=by rw [upL,if_neg (by omega)]
theorem upL_pos {vs:List DVer} (hw:WfR vs) {i:Nat} (h:i<vs.length) (h0:0<i):upL vs i=i::upL vs (upN vs i):=by
 rw [upL,if_pos (upN_lt hw h h0).1]
theorem upL_ne (vs:List DVer) (i:Nat):0<(upL vs i).length:=by rw [upL];simp
theorem upL_le (vs : List DVer) : ∀ n i, i ≤ n → ∀ x ∈ upL vs i, x ≤ i := fun n => by
  induction n with
  | zero => intro i hi x hx; obtain rfl : i = 0 := by omega
            rw [upL_zero] at hx; simp at hx; omega
  | succ n ih =>
    intro i hi x hx
    rw [upL] at hx
    rcases List.mem_cons.1 hx with rfl | hx
    · exact Nat.le_refl _
    · split at hx
      · have := ih _ (by omega) x hx; omega
      · simp at hx
theorem upL_len {vs : List DVer} : ∀ n i, i ≤ n → (upL vs i).length ≤ i + 1 := fun n => by
  induction n with
  | zero => intro i hi; obtain rfl : i = 0 := by omega
            rw [upL_zero]; simp
  | succ n ih =>
    intro i hi
    rw [upL]
    split
    · have := ih (upN vs i) (by omega); simp only [List.length_cons]; omega
    · simp
theorem upL_step {vs:List DVer} (hw:WfR vs):∀ n i,i≤n→i<vs.length→∀ j (h:j+1<(upL vs i).length),0<(upL vs i)[j]∧(upL vs i)[j]<vs.length∧upOf vs (upL vs i)[j]=((upL vs i)[j+1]:Int):=fun n=>by
 induction n with
 | zero =>
  intro i hi hl j h
  obtain rfl:i=0:=by omega
  simp [upL_zero] at h
 | succ n ih =>
  intro i hi hl j h
  rcases Nat.eq_zero_or_pos i with e | e
  ·subst e;simp [upL_zero] at h
  ·have hu:=upN_lt hw hl e
   have he:=upL_pos hw hl e
   simp only [he] at h ⊢
   match j,h with
   | 0,h =>
    simp only [List.getElem_cons_zero,List.getElem_cons_succ]
    refine ⟨e,hl,?_⟩
    have:(upL vs (upN vs i))[0]'(upL_ne _ _)=upN vs i:=by
     have h3:(upL vs (upN vs i))[0]? = some (upN vs i):=by rw [upL];rfl
     rw [List.getElem?_eq_getElem (upL_ne _ _)] at h3
     exact Option.some.inj h3
    rw [hu.2,this]
   | j+1,h =>
    simp only [List.getElem_cons_succ]
    exact ih _ (by omega) (by omega) j (by simpa using h)
theorem upL_last {vs : List DVer} (hw : WfR vs) : ∀ n i, i ≤ n → i < vs.length → (upL vs i)[(upL vs i).length - 1]? = some 0 := fun n => by
  induction n with
  | zero => intro i hi hl; obtain rfl : i = 0 := by omega
            rw [upL_zero]; rfl
  | succ n ih =>
    intro i hi hl
    rcases Nat.eq_zero_or_pos i with e | e
    · subst e; rw [upL_zero]; rfl
    · have hu := upN_lt hw hl e
      rw [upL_pos hw hl e]
      have := ih _ (by omega) (show upN vs i < vs.length by omega)
      have hp := upL_ne vs (upN vs i)
      rw [List.length_cons, show (upL vs (upN vs i)).length + 1 - 1 = ((upL vs (upN vs i)).length - 1) + 1 by omega, List.getElem?_cons_succ]
      exact this
def upF (vs:List DVer) (i j:Nat):Nat:=(upL vs i).getD j 0
theorem upF_zero (vs:List DVer) (i:Nat):upF vs i 0=i:=by unfold upF;rw [upL];rfl
theorem upF_get {vs:List DVer} {i j:Nat} (h:j<(upL vs i).length):upF vs i j=(upL vs i)[j]:=by simp [upF,List.getD,h]
theorem upF_at {vs:List DVer} (hw:WfR vs) {i:Nat} (hi:i<vs.length):(upF vs i ((upL vs i).length - 1)<vs.length∧upF vs i ((upL vs i).length - 1)=0∧upOf vs (upF vs i ((upL vs i).length - 1))<0)∧∀ j,j<(upL vs i).length - 1→0<upF vs i j∧upF vs i j<vs.length∧upOf vs (upF vs i j)=(upF vs i (j+1):Int):=by
 have hl:=upL_last hw i i (Nat.le_refl _) hi
 have e:upF vs i ((upL vs i).length - 1)=0:=by simp [upF,List.getD,hl]
 refine ⟨⟨by omega,e,?_⟩,fun j hj=>?_⟩
 ·rw [e,(hw.up 0 (by omega)).1 rfl];decide
 ·have:=upL_step hw i i (Nat.le_refl _) hi j (by omega)
  rw [upF_get (show j<_ by omega),upF_get (show j+1<_ by omega)]
  exact this
theorem upL_take {vs:List DVer} {i j:Nat} (h:j<(upL vs i).length):(upL vs i).take (j+1)=(upL vs i).take j++[upF vs i j]:=by
 rw [List.take_succ_eq_append_getElem h,upF_get h]
/-! What both have in common is left out. -/
/-! The way out, number by number. -/
end Go.Proofs.YtogbklnkpjjkoaaGreatDoor
namespace Go.Proofs.YtogbklnkpjjkoaaGreatDoor
open Go.RowKit
def zverF:List D:=.v (.int .i64 0)::(zlF++[.v (.int .i64 0),.sl .full [],.sl .full [],.sl .full []])
theorem zverF_len:zverF.length=25:=rfl
theorem inl_ct_ret {P:Program} {f:Fm} {K:D→St→Prop} (x:Tmp) (t:TypeId) (u:Tmp) (S':St):DQ.inl P [.cell x t,.tmp u] K .ret f S'=dcellR P S' t (f x) (fun r=>K (.tup [r,f u]) S'):=by
 rw [← onVal_cell]
 simp [DQ.inl,dresL,dres,onVal,one]
attribute [local go_sem] inl_ct_ret
theorem verD_up (v:DVer) (o:Own) (b:List Nat):(verD v o b).cells.getD 0 undefD=.v (.int .i64 v.up):=rfl
theorem verD_lens (v:DVer) (o:Own) (b:List Nat):D.agg (((verD v o b).cells.drop 1).take 20)=encL v.lens:=by
 show D.agg (((verCs v o b).drop 1).take 20)=_
 rw [verCs_lens,agg_encL]
theorem verD_sch (v:DVer) (o:Own) (b:List Nat):D.agg (((verD v o b).cells.drop 21).take 3)=encS v.sch:=by
 show D.agg (((verCs v o b).drop 21).take 3)=_
 rw [verCs_sch,encS_eq];rfl
theorem names_len (vs:List DVer):((vs.map (·.name)).map encH).length=vs.length:=by simp
theorem names_at {vs:List DVer} {i:Nat} (h:i<vs.length):((vs.map (·.name)).map encH).getD i undefD=encH vs[i].name:=by
 simp [List.getD,h]
section
set_option maxRecDepth 200000
set_option maxHeartbeats 8000000
theorem versions_at {S:St} {k:Nat} {F:Nat→Prop} {vs:List DVer} (hr:RegAt k F vs S) (hp:0<vs.length) (hl:vs.length≤1000000) :
  DCalls Tryz.prog 17 [.loc k 0] S (fun d T=>(∃ own,d=.sl own ((vs.map (·.name)).map encH))∧S.Sub T):=by
 refine dcalls_inline mixed Tryz.func17 rfl (fun _ _=>by kernel_rfl) (rs:=[.tmp 2]) rfl (by kernel_rfl) (fun hS=>?_)
 obtain ⟨ow,bb,q,c,es,zs,o,g1,g2,g3,g4,g5,g6⟩:=hr.open hp
 have hnl:=names_len vs
 (refine dd1 @g1 ?_)
 refine dapp_moreR elHs zeHs (.inl rfl) (fun d hd=>by simp at hd) (fun d hd=>by obtain ⟨x,_,rfl⟩:=List.mem_map.1 hd;rw [szHs];exact width_encH x) (by rw [hnl,List.length_nil];omega) (by rw [hnl,List.length_nil,byHs];omega) ?_
 have hsG:∀ n,S.Sub (S.grow .full 39 n):=fun n=>⟨by rw [grow_next];omega,fun j' o' e=>growR_keep hS e fun g eg ej=>by cases eg⟩
 (refine dd0 ?_)
 exact ⟨⟨_,rfl⟩,hsG _⟩
theorem schema_at {S:St} {k:Nat} {F:Nat→Prop} {vs:List DVer} (hr:RegAt k F vs S) {h:H32} {a:Nat} (ha:findR vs h=some a) (hal:a<vs.length) (hok:okS vs[a].sch) (hw:vs[a].sch.weight≤1000000) :
  DCalls Tryz.prog 21 [.loc k 0,encH h] S (fun d T=>d=.tup [encS vs[a].sch,.v (.bool true)]∧S.Sub T):=by
 refine dcalls_inline mixed Tryz.func21 rfl (fun _ _=>by kernel_rfl) (rs:=[.cell 4 25,.tmp 5]) rfl (by kernel_rfl) (fun hS=>?_)
 have l1:=h.2
 (refine dd1 @l1 ?_)
 generalize hX:St.add (St.add S _) _=S1
 have hs1:S.Sub S1:=by rw [← hX];exact ((St.Sub.refl S).add hS _).add hS _
 have hW1:S1.WF:=by rw [← hX];exact (hS.add _).add _
 have b1:S1.ob S.next=some (.box 39 (h.1.map bD)):=by rw [← hX];exact di0
 have b2:S1.ob (S.next+1)=some (.box 25 [.v (.int .i64 0),.sl .full [],.sl .full []]):=by rw [← hX];exact di0
 clear hX
 have hr1:=hr.sub hs1
 refine go_at (find_at hr1 h) ?_
 rw [ha]
 have c1:(some a).isSome=true:=rfl
 obtain ⟨ow,bb,q,c,es,zs,o,g1,g2,g3,g4,g5,g6⟩:=hr1.open (by omega)
 have hget:=flatR_part (a:=21) (b:=3) g5 (g6 a hal) (by omega) zs
 have hfit:=flatR_fit g5 (g6 a hal) zs
 (refine dd9 @c1 @b1 @b2 @l1 @g1 @g2 @hget @verD_sch @Option.getD_some.{0} ?_)
 refine DCalls.of_pure (schCopy_d _ hok hw) ?_
 (refine dd1 @b2 ?_)
 exact hs1.set hS (Nat.le_succ _) _
theorem schema_no {S:St} {k:Nat} {F:Nat→Prop} {vs:List DVer} (hr:RegAt k F vs S) {h:H32} (ha:findR vs h=none) :
  DCalls Tryz.prog 21 [.loc k 0,encH h] S (fun d T=>d=.tup [.agg [.v (.int .i64 0),.sl .full [],.sl .full []],.v (.bool false)]∧S.Sub T):=by
 refine dcalls_inline mixed Tryz.func21 rfl (fun _ _=>by kernel_rfl) (rs:=[.cell 4 25,.tmp 5]) rfl (by kernel_rfl) (fun hS=>?_)
 have l1:=h.2
 (refine dd1 @l1 ?_)
 generalize hX:St.add (St.add S _) _=S1
 have hs1:S.Sub S1:=by rw [← hX];exact ((St.Sub.refl S).add hS _).add hS _
 have b1:S1.ob S.next=some (.box 39 (h.1.map bD)):=by rw [← hX];exact di0
 have b2:S1.ob (S.next+1)=some (.box 25 [.v (.int .i64 0),.sl .full [],.sl .full []]):=by rw [← hX];exact di0
 clear hX
 have hr1:=hr.sub hs1
 refine go_at (find_at hr1 h) ?_
 rw [ha]
 have c1:(none:Option Nat).isSome=false:=rfl
 (refine dd4 @c1 @b1 @b2 @l1 ?_)
 exact hs1.set hS (Nat.le_succ _) _
theorem made_y {S:St} {k:Nat} {F:Nat→Prop} {vs:List DVer} (hr:RegAt k F vs S) {h:H32} {a:Nat} (ha:findR vs h=some a) (hal:a<vs.length) (hu:0≤upOf vs a) :
  DCalls Tryz.prog 40 [.loc k 0,encH h] S (fun d T=>(∃ o,d=.tup [verD vs[a] o (besL vs a),.v (.bool true)])∧S.Sub T):=by
 refine dcalls_inline mixed Tryz.func40 rfl (fun _ _=>by kernel_rfl) (rs:=[.cell 4 99,.tmp 5]) rfl (by kernel_rfl) (fun hS=>?_)
 have l1:=h.2
 (refine dd1 @l1 ?_)
 generalize hX:St.add (St.add S _) _=S1
 have hs1:S.Sub S1:=by rw [← hX];exact ((St.Sub.refl S).add hS _).add hS _
 have hW1:S1.WF:=by rw [← hX];exact (hS.add _).add _
 have b1:S1.ob S.next=some (.box 39 (h.1.map bD)):=by rw [← hX];exact di0
 have b2:S1.ob (S.next+1)=some (.box 99 zverF):=by rw [← hX];exact di2 @zverF.eq_1 @zlF.eq_1
 clear hX
 have hr1:=hr.sub hs1
 refine go_at (find_at hr1 h) ?_
 rw [ha]
 have c1:(some a).isSome=true:=rfl
 obtain ⟨ow,bb,q,c,es,zs,o,g1,g2,g3,g4,g5,g6⟩:=hr1.open (by omega)
 have hget:=flatR_get (j:=0) g5 (g6 a hal) (by omega) zs
 rw [verD_up,← upOf_lt hal,Nat.add_zero] at hget
 have hget2:=flatR_part (a:=0) (b:=25) g5 (g6 a hal) (by omega) zs
 rw [List.drop_zero,Nat.add_zero,List.take_of_length_le (Nat.le_of_eq (cl_verD _ _ _))] at hget2
 have hagg:D.agg (verD vs[a] (o a) (besL vs a)).cells=verD vs[a] (o a) (besL vs a):=rfl
 have hfit:=flatR_fit g5 (g6 a hal) zs
 have bu:decide (upOf vs a<0)=false:=decide_eq_false (by omega)
 have hlz:=zverF_len
 have hdz:List.drop 25 zverF=[]:=rfl
 have htk:List.take 25 (verD vs[a] (o a) (besL vs a)).cells=(verD vs[a] (o a) (besL vs a)).cells:=List.take_of_length_le (Nat.le_of_eq (cl_verD _ _ _))
 (simp (disch:=first | decide | omega | (simp only [nx];first | done | omega)) only [go_sem,c1,b1,b2,l1,g1,g2,hget,hget2,bu,hagg,cl_verD,okCell_verD,hlz,hdz,htk,List.append_nil,Option.getD_some];(repeat with_reducible refine aI ?_))
 exact ⟨⟨o a,rfl⟩,hs1.set hS (Nat.le_succ _) _⟩
theorem made_n {S:St} {k:Nat} {F:Nat→Prop} {vs:List DVer} (hr:RegAt k F vs S) {h:H32} (ha:findR vs h=none∨∃ a,findR vs h=some a∧a<vs.length∧upOf vs a<0) :
  DCalls Tryz.prog 40 [.loc k 0,encH h] S (fun d T=>d=.tup [.agg zverF,.v (.bool false)]∧S.Sub T):=by
 refine dcalls_inline mixed Tryz.func40 rfl (fun _ _=>by kernel_rfl) (rs:=[.cell 4 99,.tmp 5]) rfl (by kernel_rfl) (fun hS=>?_)
 have l1:=h.2
 (refine dd1 @l1 ?_)
 generalize hX:St.add (St.add S _) _=S1
 have hs1:S.Sub S1:=by rw [← hX];exact ((St.Sub.refl S).add hS _).add hS _
 have hW1:S1.WF:=by rw [← hX];exact (hS.add _).add _
 have b1:S1.ob S.next=some (.box 39 (h.1.map bD)):=by rw [← hX];exact di0
 have b2:S1.ob (S.next+1)=some (.box 99 zverF):=by rw [← hX];exact di2 @zverF.eq_1 @zlF.eq_1
 clear hX
 have hr1:=hr.sub hs1
 have hlz:=zverF_len
 refine go_at (find_at hr1 h) ?_
 rcases ha with ha | ⟨a,ha,hal,hu⟩
 ·rw [ha]
  have c1:(none:Option Nat).isSome=false:=rfl
  (refine dd5 @c1 @b1 @b2 @l1 @hlz ?_)
  exact ⟨rfl,hs1.set hS (Nat.le_succ _) _⟩
 ·rw [ha]
  have c1:(some a).isSome=true:=rfl
  obtain ⟨ow,bb,q,c,es,zs,o,g1,g2,g3,g4,g5,g6⟩:=hr1.open (by omega)
  have hget:=flatR_get (j:=0) g5 (g6 a hal) (by omega) zs
  rw [verD_up,← upOf_lt hal,Nat.add_zero] at hget
  have hfit:=flatR_fit g5 (g6 a hal) zs
  have bu:decide (upOf vs a<0)=true:=decide_eq_true (by omega)
  (refine dd10 @c1 @b1 @b2 @l1 @g1 @g2 @hget @bu @hlz @Option.getD_some.{0} ?_)
  exact ⟨rfl,hs1.set hS (Nat.le_succ _) _⟩
theorem versions_dt {S:St} {k:Nat} {F:Nat→Prop} {vs:List DVer} (hr:RegAt k F vs S) (hp:0<vs.length) (hl:vs.length≤1000000):DAt Tryz.prog 17 [.loc k 0] S (.sl .no ((vs.map (·.name)).map encH)) :=
 DCalls.at (closed_Hs _) ((versions_at hr hp hl).mono fun d T ⟨⟨own,hd⟩,hs⟩=>⟨by rw [hd,frz_slH],hs⟩)
theorem schema_dt {S:St} {k:Nat} {F:Nat→Prop} {vs:List DVer} (hr:RegAt k F vs S) {h:H32} {a:Nat} (ha:findR vs h=some a) (hal:a<vs.length) (hok:okS vs[a].sch) (hw:vs[a].sch.weight≤1000000):DAt Tryz.prog 21 [.loc k 0,encH h] S (.tup [encS vs[a].sch,.v (.bool true)]) :=
 DCalls.at ⟨closed_encS _,trivial,trivial⟩ ((schema_at hr ha hal hok hw).mono fun d T ⟨hd,hs⟩=>⟨by rw [hd];simp only [D.frz,frzL,frz_encS],hs⟩)
theorem schema_dn {S:St} {k:Nat} {F:Nat→Prop} {vs:List DVer} (hr:RegAt k F vs S) {h:H32} (ha:findR vs h=none):DAt Tryz.prog 21 [.loc k 0,encH h] S (.tup [encS zeroS,.v (.bool false)]) :=
 DCalls.at ⟨closed_encS _,trivial,trivial⟩ ((schema_no hr ha).mono fun d T ⟨hd,hs⟩=>⟨by rw [hd];rfl,hs⟩)
/-! The lens, and of which. -/
theorem lens_dy {S:St} {k:Nat} {F:Nat→Prop} {vs:List DVer} (hr:RegAt k F vs S) {h:H32} {a:Nat} (ha:findR vs h=some a) (hal:a<vs.length) (hu:0≤upOf vs a) (hok:okL vs[a].lens) (hrm:roomL 8 vs[a].lens=true) :
  DAt Tryz.prog 23 [.loc k 0,encH h] S (.tup [encL vs[a].lens,.v (.bool true)]):=by
 refine dat_of_dwpL mixed Tryz.func23 rfl (fun _ _=>by kernel_rfl) (rs:=[.cell 4 47,.tmp 5]) rfl (by kernel_rfl) (by exact ⟨closed_encL _,trivial,trivial⟩) (fun hS=>?_)
 have l1:=h.2
 (refine dd1 @l1 ?_)
 generalize hX:St.add (St.add S _) _=S1
 have hs1:S.Sub S1:=by rw [← hX];exact ((St.Sub.refl S).add hS _).add hS _
 have b1:S1.ob S.next=some (.box 39 (h.1.map bD)):=by rw [← hX];exact di0
 have b2:S1.ob (S.next+1)=some (.box 47 zlF):=by rw [← hX];exact di1 @zlF.eq_1
 clear hX
 have hr1:=hr.sub hs1
 refine DCalls.mono (DCalls.wf (made_y hr1 ha hal hu)) ?_
 rintro d T ⟨⟨⟨o,rfl⟩,hs⟩,hT⟩
 have hlv:=cl_verD vs[a] o (besL vs a)
 (refine dd3 @hlv @okCell_verD @verD_lens ?_)
 generalize hX:St.set (St.add T _) _ _=T1
 have hsT:T.Sub T1:=by rw [← hX];exact ((St.Sub.refl T).add hT _).set hT (Nat.le_refl _) _
 have hWT:T1.WF:=by rw [← hX];exact (hT.add _).set (Nat.lt_succ_self _) _
 clear hX
 have t2:=hsT.ob _ _ (hs.ob _ _ b2)
 refine DCalls.of_pure (copyL_d 8 _ hrm hok) ?_
 have hzl:zlF.length=20:=rfl
 have hdz:List.drop 20 zlF=[]:=rfl
 have htk:List.take 20 (encL vs[a].lens).cells=(encL vs[a].lens).cells:=List.take_of_length_le (Nat.le_of_eq (cells_encL _))
 have lL:=cells_encL vs[a].lens
 (refine dd7 @t2 @hzl @hdz @htk @List.append_nil.{0} @lL @agg_encL ?_)
 refine ⟨by simp only [D.frz,frzL,frz_encL],(hs1.trans (hs.trans hsT)).set hS (Nat.le_succ _) _⟩
theorem lens_dn {S:St} {k:Nat} {F:Nat→Prop} {vs:List DVer} (hr:RegAt k F vs S) {h:H32} (ha:findR vs h=none∨∃ a,findR vs h=some a∧a<vs.length∧upOf vs a<0) :
  DAt Tryz.prog 23 [.loc k 0,encH h] S (.tup [encL zeroL,.v (.bool false)]):=by
 refine dat_of_dwpL mixed Tryz.func23 rfl (fun _ _=>by kernel_rfl) (rs:=[.cell 4 47,.tmp 5]) rfl (by kernel_rfl) (by exact ⟨closed_encL _,trivial,trivial⟩) (fun hS=>?_)
 have l1:=h.2
 (refine dd1 @l1 ?_)
 generalize hX:St.add (St.add S _) _=S1
 have hs1:S.Sub S1:=by rw [← hX];exact ((St.Sub.refl S).add hS _).add hS _
 have b1:S1.ob S.next=some (.box 39 (h.1.map bD)):=by rw [← hX];exact di0
 have b2:S1.ob (S.next+1)=some (.box 47 zlF):=by rw [← hX];exact di1 @zlF.eq_1
 clear hX
 have hr1:=hr.sub hs1
 refine DCalls.mono (DCalls.wf (made_n hr1 ha)) ?_
 rintro d T ⟨⟨rfl,hs⟩,hT⟩
 have hlz:=zverF_len
 (refine dd1 @hlz ?_)
 generalize hX:St.set (St.add T _) _ _=T1
 have hsT:T.Sub T1:=by rw [← hX];exact ((St.Sub.refl T).add hT _).set hT (Nat.le_refl _) _
 clear hX
 have t2:=hsT.ob _ _ (hs.ob _ _ b2)
 refine dcalls_argEq (args':=[encL zeroL]) (by simp only [frzL];kernel_rfl) ?_
 refine DCalls.of_pure (copyL_d 1 zeroL (by decide +kernel) okL_zero) ?_
 have hzl:zlF.length=20:=rfl
 have hdz:List.drop 20 zlF=[]:=rfl
 have htk:List.take 20 (encL zeroL).cells=(encL zeroL).cells:=List.take_of_length_le (Nat.le_of_eq (cells_encL _))
 have lL:=cells_encL zeroL
 (refine dd7 @t2 @hzl @hdz @htk @List.append_nil.{0} @lL @agg_encL ?_)
 refine ⟨by simp only [D.frz,frzL,frz_encL],(hs1.trans (hs.trans hsT)).set hS (Nat.le_succ _) _⟩
theorem from_dy {S:St} {k:Nat} {F:Nat→Prop} {vs:List DVer} (hr:RegAt k F vs S) (hw:WfR vs) {h:H32} {a:Nat} (ha:findR vs h=some a) (hal:a<vs.length) (h0:0<a) :
  DAt Tryz.prog 18 [.loc k 0,encH h] S (.tup [encH (nmAt vs (upN vs a)),.v (.bool true)]):=by
 have hu:=upN_lt hw hal h0
 have hul:upN vs a<vs.length:=by omega
 refine dat_of_dwpL mixed Tryz.func18 rfl (fun _ _=>by kernel_rfl) (rs:=[.cell 4 39,.tmp 5]) rfl (by kernel_rfl) (by exact ⟨closed_encH _,trivial,trivial⟩) (fun hS=>?_)
 have l1:=h.2
 (refine dd1 @l1 ?_)
 generalize hX:St.add (St.add S _) _=S1
 have hs1:S.Sub S1:=by rw [← hX];exact ((St.Sub.refl S).add hS _).add hS _
 have b1:S1.ob S.next=some (.box 39 (h.1.map bD)):=by rw [← hX];exact di0
 have b2:S1.ob (S.next+1)=some (.box 39 [D.v (.int .u8 0),D.v (.int .u8 0),D.v (.int .u8 0),D.v (.int .u8 0),D.v (.int .u8 0),D.v (.int .u8 0),D.v (.int .u8 0),D.v (.int .u8 0),D.v (.int .u8 0),D.v (.int .u8 0),D.v (.int .u8 0),D.v (.int .u8 0),D.v (.int .u8 0),D.v (.int .u8 0),D.v (.int .u8 0),D.v (.int .u8 0),D.v (.int .u8 0),D.v (.int .u8 0),D.v (.int .u8 0),D.v (.int .u8 0),D.v (.int .u8 0),D.v (.int .u8 0),D.v (.int .u8 0),D.v (.int .u8 0),D.v (.int .u8 0),D.v (.int .u8 0),D.v (.int .u8 0),D.v (.int .u8 0),D.v (.int .u8 0),D.v (.int .u8 0),D.v (.int .u8 0),D.v (.int .u8 0)]):=by rw [← hX];exact di0
 clear hX
 have hr1:=hr.sub hs1
 refine DCalls.mono (DCalls.wf (made_y hr1 ha hal (by omega))) ?_
 rintro d T ⟨⟨⟨o,rfl⟩,hs⟩,hT⟩
 have hlv:=cl_verD vs[a] o (besL vs a)
 (refine dd2 @hlv @okCell_verD ?_)
 generalize hX:St.set (St.add T _) _ _=T1
 have hsT:T.Sub T1:=by rw [← hX];exact ((St.Sub.refl T).add hT _).set hT (Nat.le_refl _) _
 have hWT:T1.WF:=by rw [← hX];exact (hT.add _).set (Nat.lt_succ_self _) _
 have t3:T1.ob T.next=some (.box 99 (verD vs[a] o (besL vs a)).cells):=by rw [← hX];exact di0
 clear hX
 have t2:=hsT.ob _ _ (hs.ob _ _ b2)
 have hrT:=hr.sub (hs1.trans (hs.trans hsT))
 obtain ⟨ow,bb,q,c,es,zs,oo,g1,g2,g3,g4,g5,g6⟩:=hrT.open (by omega)
 have hvu:(verD vs[a] o (besL vs a)).cells.getD 0 undefD=.v (.int .i64 ((upN vs a:Nat):Int)):=by rw [verD_up,← upOf_lt hal,hu.2]
 have hgn:=names_at hul
 have hnl:=names_len vs
 have hnm:vs[upN vs a].name=nmAt vs (upN vs a):=(nmAt_lt hul).symm
 have ln:=(nmAt vs (upN vs a)).2
 refine ddraw_mk 8 (by kernel_rfl) ?_
 (refine dd8 @g1 @t3 @hvu @hgn @hnl @hnm @t2 @ln ?_)
 exact ⟨by simp only [D.frz,frzL,frz_encH],(hs1.trans (hs.trans hsT)).set hS (Nat.le_succ _) _⟩
theorem from_dn {S:St} {k:Nat} {F:Nat→Prop} {vs:List DVer} (hr:RegAt k F vs S) {h:H32} (ha:findR vs h=none∨∃ a,findR vs h=some a∧a<vs.length∧upOf vs a<0) :
  DAt Tryz.prog 18 [.loc k 0,encH h] S (.tup [encH ⟨List.replicate 32 0,rfl⟩,.v (.bool false)]):=by
 refine dat_of_dwpL mixed Tryz.func18 rfl (fun _ _=>by kernel_rfl) (rs:=[.cell 4 39,.tmp 5]) rfl (by kernel_rfl) (by exact ⟨closed_encH _,trivial,trivial⟩) (fun hS=>?_)
 have l1:=h.2
 (refine dd1 @l1 ?_)
 generalize hX:St.add (St.add S _) _=S1
 have hs1:S.Sub S1:=by rw [← hX];exact ((St.Sub.refl S).add hS _).add hS _
 have b1:S1.ob S.next=some (.box 39 (h.1.map bD)):=by rw [← hX];exact di0
 have b2:S1.ob (S.next+1)=some (.box 39 [D.v (.int .u8 0),D.v (.int .u8 0),D.v (.int .u8 0),D.v (.int .u8 0),D.v (.int .u8 0),D.v (.int .u8 0),D.v (.int .u8 0),D.v (.int .u8 0),D.v (.int .u8 0),D.v (.int .u8 0),D.v (.int .u8 0),D.v (.int .u8 0),D.v (.int .u8 0),D.v (.int .u8 0),D.v (.int .u8 0),D.v (.int .u8 0),D.v (.int .u8 0),D.v (.int .u8 0),D.v (.int .u8 0),D.v (.int .u8 0),D.v (.int .u8 0),D.v (.int .u8 0),D.v (.int .u8 0),D.v (.int .u8 0),D.v (.int .u8 0),D.v (.int .u8 0),D.v (.int .u8 0),D.v (.int .u8 0),D.v (.int .u8 0),D.v (.int .u8 0),D.v (.int .u8 0),D.v (.int .u8 0)]):=by rw [← hX];exact di0
 clear hX
 have hr1:=hr.sub hs1
 refine DCalls.mono (DCalls.wf (made_n hr1 ha)) ?_
 rintro d T ⟨⟨rfl,hs⟩,hT⟩
 have hlz:=zverF_len
 have t2:=hs.ob _ _ b2
 (refine dd1 @hlz ?_)
 generalize hX:St.set (St.add T _) _ _=T1
 have hsT:T.Sub T1:=by rw [← hX];exact ((St.Sub.refl T).add hT _).set hT (Nat.le_refl _) _
 clear hX
 have t2:=hsT.ob _ _ (hs.ob _ _ b2)
 (refine dd2 @t2 @placeT_H ?_)
 exact ⟨by kernel_rfl,(hs1.trans (hs.trans hsT)).set hS (Nat.le_succ _) _⟩
end
end Go.Proofs.YtogbklnkpjjkoaaGreatDoor
namespace Go.Proofs.YtogbklnkpjjkoaaGreatDoor
open Go.RowKit
theorem stSmall {ls:List DRst} (h:greatSt ls=false) (hok:∀ x∈ls,okL x.lens):ls.length≤14∧∀ x∈ls,okL x.lens∧roomL 8 x.lens=true:=by
 rw [greatSt,Bool.or_eq_false_iff,decide_eq_false_iff_not] at h
 refine ⟨by omega,fun x hx=>⟨hok x hx,?_⟩⟩
 have:=List.any_eq_false.1 h.2 x hx
 simpa [greatL] using this
theorem closed_Sp (v:DRst):(encSp v).closed:=by
 have hL:=closed_encL v.lens
 rw [← agg_encL] at hL
 simp only [D.closed,D.all] at hL
 simp only [encSp,spCs,D.closed,D.all]
 refine allL_iff.2 fun d hd=>?_
 rcases List.mem_cons.1 hd with rfl | hd
 ·simp [bD,D.all]
 rcases List.mem_append.1 hd with hd | hd
 ·exact allL_iff.1 (bDs_closed _) d hd
 ·exact allL_iff.1 hL d hd
theorem closed_Sps (l:List DRst):(D.sl .no (l.map encSp)).closed:=by
 simp only [D.closed,D.all,Own.all,true_and]
 exact allL_iff.2 fun d hd=>by obtain ⟨v,_,rfl⟩:=List.mem_map.1 hd;exact closed_Sp v
theorem find_nm {vs:List DVer} (hw:WfR vs) {i:Nat} (h:i<vs.length):findR vs (nmAt vs i)=some i:=by rw [nmAt_lt h];exact findR_at hw.nodup h
theorem rvs_nm {vs:List DVer} {i:Nat} (h:i<vs.length):((rvs vs)[i]'(by rw [rvs_len];exact h)).name=nmAt vs i:=by rw [rvs_get h,nmAt_lt h];rfl
theorem names_nm {vs:List DVer} {i:Nat} (h:i<vs.length):((vs.map (·.name)).map encH).getD i undefD=encH (nmAt vs i):=by rw [nmAt_lt h];exact names_at h
theorem DSt.at {P:Program} {g:FuncId} {args:List D} {S:St} {d:D} (h:DSt P g args S d):DAt P g args S d:=h S (Nat.le_refl _) fun _ _ h=>h
theorem rv_frm (v:RVer):D.agg (((encRV v).cells.drop 32).take 32)=encH v.frm:=by
 have h1:=len_encH v.name
 have h2:=len_encH v.frm
 show D.agg (((rvCs v).drop 32).take 32)=_
 rw [rvCs,List.drop_append,List.drop_of_length_le (by omega),h1,List.nil_append,Nat.sub_self,List.drop_zero,List.take_append_of_le_length (by omega),List.take_of_length_le (by omega)]
 rfl
theorem rv_lens (v:RVer):D.agg (((encRV v).cells.drop 64).take 20)=encL v.lens:=by
 have h1:=len_encH v.name
 have h2:=len_encH v.frm
 have h3:=cells_encL v.lens
 show D.agg (((rvCs v).drop 64).take 20)=_
 rw [rvCs,List.drop_append,List.drop_of_length_le (by omega),h1,List.nil_append,List.drop_append,List.drop_of_length_le (by omega),h2,List.nil_append,show 64 - 32 - 32=0 from rfl,List.drop_zero,List.take_append_of_le_length (by omega),List.take_of_length_le (by omega),agg_encL]
theorem rvs_frm {vs:List DVer} (hw:WfR vs) {i:Nat} (h:i<vs.length) (h0:0<i):((rvs vs)[i]'(by rw [rvs_len];exact h)).frm=(vs[upN vs i]'(by have:=upN_lt hw h h0;omega)).name:=by
 have hu:=upN_lt hw h h0
 rw [rvs_get h]
 have e:vs[i].up=(upN vs i:Int):=by rw [← upOf_lt h];exact hu.2
 show (if vs[i].up<0 then zH else nmAt vs vs[i].up.toNat)=_
 rw [if_neg (by omega),e,Int.toNat_natCast,nmAt_lt (by omega)]
theorem rvs_frm0 {vs:List DVer} (hw:WfR vs) (h:0<vs.length):((rvs vs)[0]'(by rw [rvs_len];exact h)).frm=zH:=by
 rw [rvs_get h]
 have e:vs[0].up=-1:=by rw [← upOf_lt h];exact (hw.up 0 h).1 rfl
 show (if vs[0].up<0 then zH else nmAt vs vs[0].up.toNat)=_
 rw [if_pos (by omega)]
theorem ixR_frm {vs:List DVer} (hw:WfR vs) {i:Nat} (h:i<vs.length) (h0:0<i):ixR (rvs vs) ((rvs vs)[i]'(by rw [rvs_len];exact h)).frm=(upN vs i:Int):=by
 have hu:=upN_lt hw h h0
 rw [rvs_frm hw h h0,ixR_find hw.nodup,findR_at hw.nodup (by omega)]
theorem row_push {S U:St} {own:Own} {n:Nat} {e:TypeId} (hU:U.WF) (hS:S.WF) (hs:S.Sub U) (h:own=.full∨∃ g,own=.row g∧S.next≤g∧U.ob g=some (.row e n)) (m:Nat):S.Sub (U.grow own e m):=⟨by rw [grow_next];have:=hs.next;omega,fun j o ej=>growR_keep hU (hs.ob _ _ ej) fun g eg e2=>by
 rcases h with h | ⟨g',h1,h2,h3⟩
 ·rw [h] at eg;cases eg
 ·rw [h1] at eg;injection eg with eg;have:=hS.lt ej;omega⟩
theorem row_fl {U:St} {own:Own} {n b:Nat} {e:TypeId} (h:own=.full∨∃ g,own=.row g∧b≤g∧U.ob g=some (.row e n)) {m:Nat} (hm:m=n):own=.full∨∃ g,own=.row g∧U.ob g=some (.row e m):=h.imp id fun ⟨g,h1,_,h3⟩=>⟨g,h1,by rw [hm];exact h3⟩
attribute [local go_sem] cl_RV okCell_RV
section
set_option maxRecDepth 200000
set_option maxHeartbeats 8000000
theorem up20_d {S:St} (own:Own) {vs:List DVer} (hw:WfR vs) (hl:vs.length≤1000000) {a:Nat} (ha:a<vs.length) :
  DCalls Tryz.prog 26 [.sl own ((rvs vs).map encRV),nD a] S (fun d T=>(∃ ow,d=.sl ow ((upL vs a).map nD))∧S.Sub T):=by
 refine dcalls_inline mixed Tryz.func26 rfl (fun _ _=>by kernel_rfl) (rs:=[.tmp 4]) rfl (by kernel_rfl) (fun hS=>?_)
 (refine dd2 @nD.eq_1 @iD.eq_1 ?_)
 have hp:=upL_ne vs a
 have hle:=upL_len (vs:=vs) a a (Nat.le_refl _)
 obtain ⟨⟨f1,f2,f3⟩,fs⟩:=upF_at hw ha
 refine dloop_up (fun t=>List.contains [1,5,8,9,10,11,12,13,14,15,16,17,18,19,20] t) (by kernel_rfl) hS ((upL vs a).length - 1) (fun i q U=>i≤(upL vs a).length - 1∧q 1=nD (upF vs a i)∧S.Sub U∧∃ ow,q 5=.sl ow (((upL vs a).take (i+1)).map nD)∧(ow=.full∨∃ g,ow=.row g∧S.next≤g∧U.ob g=some (.row 3 (i+1))))
  ⟨Nat.zero_le _,by exact di3 @upF_zero @nD.eq_1 @iD.eq_1,St.Sub.refl _,.full,by rw [upL_take hp,upF_zero];exact di6 @List.take_zero.{0} @List.nil_append.{0} @List.map_cons.{0,0} @List.map_nil.{0,0} @nD.eq_1 @iD.eq_1,.inl rfl⟩ ?_
 rintro i q U hU hg ⟨le,q1,hsU,ow,q5,hrow⟩
 (have q0:=hg 0 rfl;have q4:=hg 4 rfl;simp (disch:=first | decide | omega | (simp only [nx];first | done | omega)) only [go_sem,nD,iD] at q0 q4;clear hg)
 by_cases hlt:i<(upL vs a).length - 1
 ·obtain ⟨k0,k1,k2⟩:=fs i hlt
  have b1:decide ((upF vs a i:Int) > 0)=true:=decide_eq_true (by omega)
  have hk':upF vs a i<(rvs vs).length:=by rw [rvs_len];exact k1
  have hget:=getD_map encRV (rvs vs) _ hk'
  have lf:=((rvs vs)[upF vs a i]).frm.2
  (refine dd10 @q0 @q1 @q5 @nD.eq_1 @iD.eq_1 @b1 @hget @hk' @rv_frm @lf ?_)
  refine DCalls.of_pure (findRV_d own (rvs vs) _ (by rw [rvs_len];exact hl)) ?_
  rw [ixR_frm hw k1 k0]
  have hun:upN vs (upF vs a i)=upF vs a (i+1):=by unfold upN;rw [k2,Int.toNat_natCast]
  rw [hun]
  (refine dd5 @q0 @q1 @q5 @nD.eq_1 @iD.eq_1 ?_)
  have hpl:(((upL vs a).take (i+1)).map nD).length=i+1:=by rw [List.length_map,List.length_take];omega
  refine dapp_rowF elIs (by kernel_rfl) (by rw [byIs];omega) (row_fl hrow hpl) (by rw [hpl];omega) (fun d hd=>by obtain ⟨x,_,rfl⟩:=List.mem_map.1 hd;rw [szIs];rfl) (by rw [szIs];rfl) ?_
  rw [hpl]
  have hsG:=row_push hU hS hsU hrow (i+1+1)
  have hnew:(U.grow ow 3 (i+1+1)).ob U.next=some (.row 3 (i+1+1)):=growR_new
  (refine dd3 @q0 @q1 @q5 ?_)
  refine ⟨by omega,_,fun _ _ h=>h,by omega,by exact di2 @nD.eq_1 @iD.eq_1,hsG,.row U.next,?_,.inr ⟨U.next,rfl,hsU.next,hnew⟩⟩
  rw [upL_take (show i+1<(upL vs a).length by omega),List.map_append]
  rfl
 ·obtain rfl:i=(upL vs a).length - 1:=by omega
  have b1:decide ((upF vs a ((upL vs a).length - 1):Int) > 0)=false:=decide_eq_false (by omega)
  (refine dd6 @q0 @q1 @q5 @nD.eq_1 @iD.eq_1 @b1 ?_)
  rw [show (upL vs a).length - 1+1=(upL vs a).length by omega,List.take_length]
  exact ⟨⟨_,rfl⟩,hsU⟩
theorem up20_p (own:Own) {vs:List DVer} (hw:WfR vs) (hl:vs.length≤1000000) {a:Nat} (ha:a<vs.length):DPure Tryz.prog 26 [.sl own ((rvs vs).map encRV),nD a] (.sl .no ((upL vs a).map nD)):=fun S =>
 DCalls.at (closed_Ns _) ((up20_d own hw hl ha).mono fun d T ⟨⟨ow,hd⟩,hs⟩=>⟨by rw [hd,frz_Ns],hs⟩)
end
end Go.Proofs.YtogbklnkpjjkoaaGreatDoor
namespace Go.Proofs.YtogbklnkpjjkoaaGreatDoor
open Go.RowKit
theorem refSS (t:DSch) (h:okS t):DPure Tryz.prog 22 [encS t,encS t] (.v (.bool true)):=by
 have:=refSameS_d t t h h
 rwa [eqB_self] at this
theorem refVV (t:DVal) (h:okV t):DPure Tryz.prog 45 [encV t,encV t] (.v (.bool true)):=by
 have:=refSameV_d t t h h
 rwa [eqB_self] at this
section
set_option maxRecDepth 200000
set_option maxHeartbeats 8000000
theorem sameL_d (k:Nat):∀ l:DLens,roomL k l=true→okL l→DPure Tryz.prog 24 [encL l,encL l] (.v (.bool true)):=by
 induction k with
 | zero=>intro l h;simp [roomL] at h
 | succ k ih =>
  intro l hr hok
  have ho:=(okL_eq l).1 hok
  have hr2:=hr
  simp only [roomL,Bool.and_eq_true,decide_eq_true_eq] at hr2
  obtain ⟨⟨⟨⟨⟨⟨⟨⟨hil,hpl⟩,_⟩,_⟩,_⟩,_⟩,_⟩,_⟩,hin⟩:=hr2
  refine dpure_of_dwp mixed Tryz.func24 rfl (fun _ _=>by kernel_rfl) (rs:=[.tmp 4]) rfl (by kernel_rfl) trivial (fun S hS=>?_)
  (refine dd3 (encL_eq l) @bne_self_eq_false.{0} @beq_self_eq_true.{0} ?_)
  rw [aggS_fold]
  refine DCalls.of_pure (refSS l.typ ho.2.2.2.1) ?_
  (refine dd0 ?_)
  rw [aggV_fold]
  refine DCalls.of_pure (refVV l.base ho.2.2.2.2.1) ?_
  (refine dd0 ?_)
  rw [aggV_fold]
  refine DCalls.of_pure (refVV l.back ho.2.2.2.2.2.1) ?_
  (refine dd1 @bne_self_eq_false.{0} ?_)
  generalize hX:St.add (St.add S _) _=S1
  have hs1:S.Sub S1:=by rw [← hX];exact ((St.Sub.refl S).add hS _).add hS _
  have hW1:S1.WF:=by rw [← hX];exact (hS.add _).add _
  have b2:S1.ob S.next=some (.box 47 (encL l).cells):=by rw [← hX];exact di1 (encL_eq l)
  have b3:S1.ob (S.next+1)=some (.box 47 (encL l).cells):=by rw [← hX];exact di1 (encL_eq l)
  rw [encL_eq l] at b2 b3
  simp only [D.cells] at b2 b3
  clear hX
  (refine dloop_st (fun t=>List.contains [4,5,68,69,70,71,72,73,74,75,76,77,78,79,80,81,82,83,84,85,86,87,88,89,90,91,92,93,94,95,96,97,98,99,100,101,102,103,104] t) (by kernel_rfl) ?_ (l.pairs.length) (fun i f=>i≤l.pairs.length∧f 5=.v (.int .i64 (i:Nat))) ?_ ?_;(exact wfA);(exact ⟨(by omega),(by exact di2 @b2 @b3)⟩);intro i g tn hn hT hg hI;obtain ⟨le,q5⟩:=hI;have q2:=hg 2 rfl;have q3:=hg 3 rfl;simp (disch:=first | decide | omega | (simp only [nx];first | done | omega)) only [go_sem,b2,b3] at q2 q3;clear hg;have hn':=hn;try simp only [add_next,set_next,grow_next,leave_next,drop_next] at hn')
  have w1:IntKind.i64.wrap ((i:Int)+1)=((i+1:Nat):Int):=IntWalk.i64_in _ ⟨by omega,by omega⟩
  by_cases hlt:i<l.pairs.length
  ·have c1:decide ((i:Int)<(l.pairs.length:Int))=true:=decide_eq_true (by omega)
   have hxp:=getD_map encPr l.pairs i hlt
   have hok2:=ho.2.2.2.2.2.2.1 l.pairs[i] (List.getElem_mem hlt)
   (refine dd6 @q2 @q3 @q5 @b2 @b3 @c1 ?_)
   refine ddraw_mk 30 (by kernel_rfl) ?_
   (refine dd9 @q2 @q3 @q5 @b2 @b3 @c1 @hxp @encPr_eq @hlt ?_)
   rw [aggV_fold]
   refine dqgo_mk (refVV _ hok2.1) ?_
   (refine dd9 @q2 @q3 @q5 @b2 @b3 @c1 @hxp @encPr_eq @hlt ?_)
   rw [aggV_fold]
   refine dqgo_mk (refVV _ hok2.2) ?_
   (refine dd6 @q2 @q3 @q5 @b2 @b3 @w1 ?_)
   (refine ⟨by omega,subA,?_⟩;refine ⟨by omega,?_⟩;all_goals (try exact di1 @w1))
  ·have c1:decide ((i:Int)<(l.pairs.length:Int))=false:=decide_eq_false (by omega)
   (refine dd6 @q2 @q3 @q5 @b2 @b3 @c1 ?_)
   generalize hX:St.mk tn S1.ob=S2
   have hs2:S.Sub S2:=by rw [← hX];exact ⟨Nat.le_trans hs1.next hn,fun _ _ h=>hs1.ob _ _ h⟩
   have hW2:S2.WF:=by rw [← hX];assumption
   have b2':S2.ob S.next=S1.ob S.next:=by rw [← hX]
   have b3':S2.ob (S.next+1)=S1.ob (S.next+1):=by rw [← hX]
   rw [b2] at b2'
   rw [b3] at b3'
   clear hX
   (refine dloop_st (fun t=>List.contains [4,6,105,106,107,108,109,110,111,112,113,114,115,116,117,118,119,120,121,122,123] t) (by kernel_rfl) ?_ (l.inner.length) (fun ic f=>ic≤l.inner.length∧f 6=.v (.int .i64 (ic:Nat))) ?_ ?_;(exact wfA);(exact ⟨(by omega),(by exact di4 @b2' @b3' @q2 @q3)⟩);intro ic gc tnc hnc hTc hgc hIc;obtain ⟨lec,q6c⟩:=hIc;have q2c:=hgc 2 rfl;have q3c:=hgc 3 rfl;simp (disch:=first | decide | omega | (simp only [nx];first | done | omega)) only [go_sem,b2',b3',q2,q3] at q2c q3c;clear hgc;have hnc':=hnc;try simp only [add_next,set_next,grow_next,leave_next,drop_next] at hnc')
   have hw2:IntKind.i64.wrap ((ic:Int)+1)=((ic+1:Nat):Int):=IntWalk.i64_in _ ⟨by omega,by omega⟩
   by_cases hlt:ic<l.inner.length
   ·have c2:decide ((ic:Int)<(l.inner.length:Int))=true:=decide_eq_true (by omega)
    have hxp:=getD_map encL l.inner ic hlt
    have hok2:=ho.2.2.2.2.2.2.2.2.2 l.inner[ic] (List.getElem_mem hlt)
    have hrm:=List.all_eq_true.1 hin _ (List.getElem_mem hlt)
    (refine dd6 @q2c @q3c @q6c @b2' @b3' @c2 ?_)
    refine ddraw_mk 12 (by kernel_rfl) ?_
    (refine dd8 @q2c @q3c @q6c @b2' @b3' @c2 @hxp @hlt ?_)
    refine dqgo_mk (ih _ hrm hok2) ?_
    (refine dd6 @q2c @q3c @q6c @b2' @b3' @hw2 ?_)
    refine ⟨by omega,⟨hnc,fun _ _ h=>h⟩,by omega,?_⟩
    exact di1 @hw2
   ·have c2:decide ((ic:Int)<(l.inner.length:Int))=false:=decide_eq_false (by omega)
    (refine dd6 @q2c @q3c @q6c @b2' @b3' @c2 ?_)
    refine ⟨?_,⟨Nat.le_trans hs2.next hnc,fun _ _ h=>hs2.ob _ _ h⟩⟩
    rfl
end
attribute [local go_sem] cl_RV okCell_RV
theorem closed_args3 (s:DSch) (l:List DRst) (h:H32):allL (fun _=>False) [encS s,.sl .no (l.map encSp),encH h]:=⟨closed_encS s,closed_Sps l,closed_encH h,trivial⟩
theorem mdV_head (s:DSch) (ls:List DRst):∀ i,i≤ls.length→∃ t,mdV s ls i=rootV (rgH 99) s::t
 | 0,_=>⟨[],rfl⟩
 | i+1,h=>by
  obtain ⟨t,ht⟩:=mdV_head s ls i (by omega)
  rw [mdV_succ (by omega),ht,stepR]
  rcases addR_cases (rootV (rgH 99) s::t) ls[i].name (fromN (rootV (rgH 99) s::t) ls[i].frm) ls[i].lens (tgS ls[i].lens) with ⟨e,_⟩ | ⟨k,hk,_,_,_,e⟩
  ·rw [e];exact ⟨t,rfl⟩
  ·rw [e];exact ⟨t++_,rfl⟩
theorem wB5:wB 5≤1000000:=by decide
theorem lens_st {S:St} {k:Nat} {F:Nat→Prop} {vs:List DVer} (hr:RegAt k F vs S) (hv:OkR vs) (h0:vs[0]?.map (·.lens)=some zeroL) {i:Nat} (hi:i<vs.length):DSt Tryz.prog 23 [.loc k 0,encH (nmAt vs i)] S (.tup [encL vs[i].lens,.v (.bool (decide (0<((i:Nat):Int))))]):=DAt.st fun T hs=>by
 rcases Nat.eq_zero_or_pos i with e | e
 ·subst e
  have e1:vs[0].lens=zeroL:=by rw [List.getElem?_eq_getElem hi] at h0;exact Option.some.inj h0
  rw [e1,decide_eq_false (show ¬ 0<((0:Nat):Int) by omega)]
  exact lens_dn (hr.sub hs) (.inr ⟨0,find_nm hv.wf hi,hi,by rw [(hv.wf.up 0 hi).1 rfl];decide⟩)
 ·rw [decide_eq_true (show 0<((i:Nat):Int) by omega)]
  have hx:=hv.lens _ (List.getElem_mem hi)
  exact lens_dy (hr.sub hs) (find_nm hv.wf hi) hi (by have:=(upN_lt hv.wf hi e).2;omega) hx.1 hx.2
theorem from_st {S:St} {k:Nat} {F:Nat→Prop} {vs:List DVer} (hr:RegAt k F vs S) (hw:WfR vs) {i:Nat} (hi:i<vs.length):DSt Tryz.prog 18 [.loc k 0,encH (nmAt vs i)] S (.tup [encH ((rvs vs)[i]'(by rw [rvs_len];exact hi)).frm,.v (.bool (decide (0<((i:Nat):Int))))]):=DAt.st fun T hs=>by
 rcases Nat.eq_zero_or_pos i with e | e
 ·subst e
  rw [rvs_frm0 hw hi,decide_eq_false (show ¬ 0<((0:Nat):Int) by omega)]
  exact from_dn (hr.sub hs) (.inr ⟨0,find_nm hw hi,hi,by rw [(hw.up 0 hi).1 rfl];decide⟩)
 ·rw [decide_eq_true (show 0<((i:Nat):Int) by omega),rvs_frm hw hi e,← nmAt_lt]
  exact from_dy (hr.sub hs) hw (find_nm hw hi) hi e
theorem schema_st {S:St} {k:Nat} {F:Nat→Prop} {vs:List DVer} (hr:RegAt k F vs S) (hv:OkR vs) {i:Nat} (hi:i<vs.length):DSt Tryz.prog 21 [.loc k 0,encH (nmAt vs i)] S (.tup [encS vs[i].sch,.v (.bool true)]):=DAt.st fun T hs=>by
 have hx:=hv.sch _ (List.getElem_mem hi)
 exact schema_dt (hr.sub hs) (find_nm hv.wf hi) hi hx.1 (Nat.le_trans (rightS_wB 5 _ hx.2) wB5)
theorem depth_st {S:St} {k:Nat} {F:Nat→Prop} {vs:List DVer} (hr:RegAt k F vs S) (hw:WfR vs) (hl:vs.length≤1000000) {i:Nat} (hi:i<vs.length):DSt Tryz.prog 25 [.loc k 0,encH (nmAt vs i)] S (.v (.int .i64 (((upL vs i).length - 1:Nat):Int))):=DAt.st fun T hs=>by
 obtain ⟨⟨f1,f2,f3⟩,fs⟩:=upF_at hw hi
 have:=upL_len (vs:=vs) i i (Nat.le_refl _)
 exact depth_dt (hr.sub hs) hl (find_nm hw hi) ((upL vs i).length - 1) (upF vs i) (by omega) (upF_zero vs i) ⟨f1,f3⟩ (fun j hj=>(fs j hj).2)
theorem rb_ne {x y:Operand} (a b:Bool):dbin Tryz.prog .neq 4 x y (.v (.bool a)) (.v (.bool b))=some (True,.v (.bool (a != b))):=by cases a <;> cases b <;> kernel_rfl
theorem rb_eqA {x y:Operand} (a b:Bool):dbin Tryz.prog .eql 4 x y (.v (.bool a)) (.v (.bool b))=some (True,.v (.bool (a == b))):=by cases a <;> cases b <;> kernel_rfl
section
set_option maxRecDepth 200000
set_option maxHeartbeats 8000000
theorem adds_d (s:DSch) (ls:List DRst) (ask:H32) (hs:okS s) (hl:ls.length≤140737488351232) (hok:∀ x∈ls,okL x.lens):DPure Tryz.prog 6 [encS s,.sl .no (ls.map encSp),encH ask] (.v (.bool true)):=by
 refine dpure_nil (closed_args3 s ls ask) (dat_of_dwpL mixed Tryz.func6 rfl (fun _ _=>by kernel_rfl) (rs:=[.tmp 6]) rfl (by kernel_rfl) (by trivial) (fun hS=>?_))
 have lS:=cells_encS s
 have lq:=ask.2
 have aS:D.agg (encS s).cells=encS s:=by rw [encS_eq];rfl
 (refine dd3 @lS @aS @lq ?_)
 refine DCalls.of_pure (greatSD s hs) ?_
 cases hg:greatS s with
 | true =>
  (refine dd0 ?_)
  refine DCalls.of_pure awake20_d ?_
  (refine dd0 ?_)
  refine pendL ?_
  rfl
 | false =>
 (refine dd0 ?_)
 refine DCalls.of_pure (great20_d .no ls hl hok) ?_
 cases hg2:greatSt ls with
 | true =>
  (refine dd0 ?_)
  refine DCalls.of_pure awake20_d ?_
  (refine dd0 ?_)
  refine pendL ?_
  rfl
 | false =>
 (refine dd2 @lS @aS ?_)
 obtain ⟨hl14,hok2⟩:=stSmall hg2 hok
 have hsw:=(smallS hg).1
 generalize hX:St.add (St.add St.nil _) _=S1
 have b5:S1.ob (St.nil.next+1)=some (.box 39 (ask.1.map bD)):=by rw [← hX];exact di0
 clear hX
 refine DCalls.mono (DCalls.wf (made_a s .no ls hs (by omega) hl14 hok2)) ?_
 rintro d T ⟨hd,hT⟩
 unfold MadeK at hd
 by_cases hR:s.kind=5∧rightS 5 s=true
 ·rw [if_pos hR] at hd
  obtain ⟨k,F,rfl,hr,hF,hsT⟩:=hd
  have hv:=mdV_ok hs hR.2 hok2 ls.length (Nat.le_refl _)
  have hvl:=mdV_len s ls ls.length (Nat.le_refl _)
  have h0:(mdV s ls ls.length)[0]?.map (·.lens)=some zeroL:=by
   obtain ⟨t,ht⟩:=mdV_head s ls ls.length (Nat.le_refl _)
   rw [ht];rfl
  generalize mdV s ls ls.length=vs at *
  have hw:=hv.wf
  have hpos:=hv.pos
  have hln:=rvs_len vs
  have hnl:=names_len vs
  have e0:((vs.length:Int) == 0)=false:=by rw [beq_eq_false_iff_ne];omega
  have b5T:=hsT.ob _ _ b5
  (refine dd2 @hln @e0 ?_)
  refine go_at (versions_dt hr hpos (by omega)) ?_
  (refine dd3 @hln @hnl @bne_self_eq_false.{0} ?_)
  refine dloop_up (fun t=>List.contains [6,11,12,13,14,15,16,17,18,53,54,55,56,57,58,59,60,61,62,63,64,65,66,67,68,69,70,71,72,73,74,75,76,77,78,79,80,81,82,83,84,85,86,87,88,89,90,91,92,93,94,95,96,97,98,99,100,101,102,103,104,105,106,107,108,109,110,111,112,113,114,115,116,117,118,119,120,121,122,123,124,125,126,127,128,129,130,131,132,133,134,135,136,137,138] t) (by kernel_rfl) hT vs.length (fun i q U=>i≤vs.length∧q 11=.v (.int .i64 ((i:Nat):Int))∧T.Sub U) ⟨Nat.zero_le _,by exact di0,St.Sub.refl _⟩ ?_
  rintro i q U hU hg ⟨le,q11,hsU⟩
  (have q5:=hg 5 rfl;have q7:=hg 7 rfl;have q8:=hg 8 rfl;have q10:=hg 10 rfl;simp (disch:=first | decide | omega | (simp only [nx];first | done | omega)) only [go_sem] at q5 q7 q8 q10;clear hg)
  have hrU:=hr.sub hsU
  by_cases hi:i<vs.length
  ·have b1:decide ((i:Int)<(vs.length:Int))=true:=decide_eq_true (by omega)
   have w1:IntKind.i64.wrap ((i:Int)+1)=((i+1:Nat):Int):=IntWalk.i64_in _ ⟨by omega,by omega⟩
   have hi':i<(rvs vs).length:=by omega
   have gi:=getD_map encRV (rvs vs) i hi'
   have gn:=names_nm hi
   have ni:=rvs_nm hi
   have li:=(nmAt vs i).2
   have lV:=cl_RV (rvs vs)[i]
   have hC:List.take 87 (encRV (rvs vs)[i]).cells=(encRV (rvs vs)[i]).cells:=List.take_of_length_le (Nat.le_of_eq lV)
   (refine dd13 @q7 @q8 @q11 @hln @b1 @gi @hi' @lV @hC @List.append_nil.{0} @rv_name @ni @li ?_)
   generalize hX:St.set (St.add U _) _ _=U1
   have hs1:U.Sub U1:=by rw [← hX];exact ((St.Sub.refl U).add hU _).set hU (Nat.le_refl _) _
   have hW1:U1.WF:=by rw [← hX];exact (hU.add _).set (Nat.lt_succ_self _) _
   have b12:U1.ob U.next=some (.box 49 (encRV (rvs vs)[i]).cells):=by rw [← hX];exact di0
   clear hX
   have hr1:=hrU.sub hs1
   refine go_at (schema_st hr1 hv hi).at ?_
   have lS2:=cells_encS vs[i].sch
   (refine dd2 @q7 @lS2 ?_)
   generalize hX:St.set (St.add U1 _) _ _=U2
   have hs2:U1.Sub U2:=by rw [← hX];exact ((St.Sub.refl U1).add hW1 _).set hW1 (Nat.le_refl _) _
   have hW2:U2.WF:=by rw [← hX];exact (hW1.add _).set (Nat.lt_succ_self _) _
   have b13:U2.ob U1.next=some (.box 25 (encS vs[i].sch).cells):=by rw [← hX];exact di0
   clear hX
   have hr2:=hr1.sub hs2
   have b12:=hs2.ob _ _ b12
   have lL:=cells_encL vs[i].lens
   (refine dd6 @q7 @b12 @rv_name @ni @li @lV ?_)
   refine go_at (lens_st hr2 hv h0 hi).at ?_
   (refine dd2 @q7 @lL ?_)
   generalize hX:St.set (St.add U2 _) _ _=U3
   have hs3:U2.Sub U3:=by rw [← hX];exact ((St.Sub.refl U2).add hW2 _).set hW2 (Nat.le_refl _) _
   have hW3:U3.WF:=by rw [← hX];exact (hW2.add _).set (Nat.lt_succ_self _) _
   have b15:U3.ob U2.next=some (.box 47 (encL vs[i].lens).cells):=by rw [← hX];exact di0
   clear hX
   have hr3:=hr2.sub hs3
   have b12:=hs3.ob _ _ b12
   have b13:=hs3.ob _ _ b13
   (refine dd6 @q7 @b12 @rv_name @ni @li @lV ?_)
   refine go_at (from_st hr3 hw hi).at ?_
   have lF:=((rvs vs)[i]).frm.2
   (refine dd2 @q7 @lF ?_)
   generalize hX:St.set (St.add U3 _) _ _=U4
   have hs4:U3.Sub U4:=by rw [← hX];exact ((St.Sub.refl U3).add hW3 _).set hW3 (Nat.le_refl _) _
   have hW4:U4.WF:=by rw [← hX];exact (hW3.add _).set (Nat.lt_succ_self _) _
   have b17:U4.ob U3.next=some (.box 39 (((rvs vs)[i]).frm.1.map bD)):=by rw [← hX];exact di0
   clear hX
   have hr4:=hr3.sub hs4
   have b12:=hs4.ob _ _ b12
   have b13:=hs4.ob _ _ b13
   have b15:=hs4.ob _ _ b15
   have e1:(!decide (nmAt vs i=nmAt vs i))=false:=by rw [decide_eq_true rfl];rfl
   have e2:(!decide (((rvs vs)[i]).frm=((rvs vs)[i]).frm))=false:=by rw [decide_eq_true rfl];rfl
   have aL:D.agg (encL vs[i].lens).cells=encL vs[i].lens:=agg_encL _
   have aSS:D.agg (encS vs[i].sch).cells=encS vs[i].sch:=by rw [encS_eq];rfl
   have hx:=hv.sch _ (List.getElem_mem hi)
   have hy:=hv.lens _ (List.getElem_mem hi)
   have lf:=rv_lens (rvs vs)[i]
   have sf:=rv_sch (rvs vs)[i]
   have hrl:((rvs vs)[i]).lens=vs[i].lens:=by rw [rvs_get hi];rfl
   have hrs:((rvs vs)[i]).sch=vs[i].sch:=by rw [rvs_get hi];rfl
   rw [hrl] at lf
   rw [hrs] at sf
   have e3:∀ b:Bool,(b != b)=false:=fun b=>by cases b <;> rfl
   refine ddraw_mk 55 (by kernel_rfl) ?_
   (simp (disch:=first | decide | omega | (simp only [nx];first | done | omega)) only [go_sem,q7,q8,q10,q11,b12,b13,b15,b17,gn,hnl,rv_name,ni,li,lV,onVal_neH,e1,lS2,aSS,sf];(repeat with_reducible refine aI ?_))
   refine dqgo_mk (refSS _ hx.1) ?_
   (simp (disch:=first | decide | omega | (simp only [nx];first | done | omega)) only [go_sem,q7,q8,q11,b12,b15,b17,rb_ne,e3,rv_name,ni,li,lV,lL,aL,lf];(repeat with_reducible refine aI ?_))
   refine dqgo_mk (sameL_d 8 _ hy.2 hy.1) ?_
   (refine dd13 @q7 @q8 @q11 @b12 @b17 @lF @rv_frm @rv_name @ni @li @lV @onVal_neH @e2 ?_)
   refine dqgo_at (depth_st hr4 hw (by omega) hi) ?_
   (refine dd2 @q8 @q11 ?_)
   refine dqgo_mk (up20_p .no hw (by omega) hi) ?_
   have hun:=upL_ne vs i
   have hul:=upL_len (vs:=vs) i i (Nat.le_refl _)
   have w2:IntKind.i64.wrap (((upL vs i).length:Int) - 1)=(((upL vs i).length - 1:Nat):Int):=by rw [show ((upL vs i).length:Int) - 1=(((upL vs i).length - 1:Nat):Int) by omega];exact IntWalk.i64_in _ ⟨by omega,by omega⟩
   (refine dd4 @q11 @w1 @w2 @bne_self_eq_false.{0} ?_)
   exact ⟨hi,_,fun _ _ h=>h,by omega,by exact di0,hsU.trans (hs1.trans (hs2.trans (hs3.trans hs4)))⟩
  ·obtain rfl:i=vs.length:=by omega
   have b1:decide ((vs.length:Int)<(vs.length:Int))=false:=decide_eq_false (by omega)
   have b5U:=hsU.ob _ _ b5T
   (refine dd8 @q5 @q7 @q8 @q11 @hln @b1 @b5U @lq ?_)
   cases hf:findR vs ask with
   | some j =>
    obtain ⟨hj,hjn⟩:=findR_some hf
    have hja:nmAt vs j=ask:=by rw [nmAt_lt hj];exact hjn
    have hsd:=(schema_st hrU hv hj).at
    rw [hja] at hsd
    refine go_at hsd ?_
    have lS2:=cells_encS vs[j].sch
    (refine dd2 @q8 @lS2 ?_)
    generalize hX:St.set (St.add U _) _ _=U1
    have hs1:U.Sub U1:=by rw [← hX];exact ((St.Sub.refl U).add hU _).set hU (Nat.le_refl _) _
    clear hX
    have b5U:=hs1.ob _ _ b5U
    (refine dd4 @q5 @q8 @b5U @lq ?_)
    refine DCalls.of_pure (findRV_d .no (rvs vs) ask (by omega)) ?_
    rw [ixR_find hw.nodup,hf]
    have c1:decide (0≤((j:Nat):Int))=true:=decide_eq_true (by omega)
    have c2:(true == true)=true:=rfl
    (refine dd3 @c1 @c2 @rb_eqA ?_)
    refine DCalls.of_pure awake20_d ?_
    (refine dd0 ?_)
    exact ⟨rfl,⟨Nat.zero_le _,fun _ _ h=>by cases h⟩⟩
   | none =>
    refine go_at (schema_dn hrU hf) ?_
    have lS2:=cells_encS zeroS
    (refine dd2 @q8 @lS2 ?_)
    generalize hX:St.set (St.add U _) _ _=U1
    have hs1:U.Sub U1:=by rw [← hX];exact ((St.Sub.refl U).add hU _).set hU (Nat.le_refl _) _
    clear hX
    have b5U:=hs1.ob _ _ b5U
    (refine dd4 @q5 @q8 @b5U @lq ?_)
    refine DCalls.of_pure (findRV_d .no (rvs vs) ask (by omega)) ?_
    rw [ixR_find hw.nodup,hf]
    have c1:decide (0≤(-1:Int))=false:=decide_eq_false (by decide)
    have c2:(false == false)=true:=rfl
    (refine dd3 @c1 @c2 @rb_eqA ?_)
    refine DCalls.of_pure awake20_d ?_
    (refine dd0 ?_)
    exact ⟨rfl,⟨Nat.zero_le _,fun _ _ h=>by cases h⟩⟩
 ·rw [if_neg hR] at hd
  obtain ⟨rfl,hsT⟩:=hd
  have e0:(((0:Nat):Int) == 0)=true:=by decide
  (refine dd1 @e0 ?_)
  refine DCalls.of_pure awake20_d ?_
  (refine dd0 ?_)
  exact ⟨rfl,⟨Nat.zero_le _,fun _ _ h=>by cases h⟩⟩
end
end Go.Proofs.YtogbklnkpjjkoaaGreatDoor
namespace Go.Proofs.YtogbklnkpjjkoaaGreatDoor
open Go.ChangeShapes Go.WideShapes Go.ChangeAt Go.RowKit
set_option maxRecDepth 100000 in
theorem registryAdds_lifted (os:Os) (started:os.Started) (H:Type) (enc:TypeId × Value→H) :
  ReturnsInHanded {} Tryz.checked os 6 .any (fun w args=>(Rows.registryAddsSpec.pre enc Tryz.prog Tryz.f6 [] false w args∧laidMetH Tryz.prog doorLaid w)∧sizedMet enc Tryz.prog Tryz.f6 (OpenSpec.ofChange Rows.registryAddsSpec) false w args)
   (Rows.registryAddsSpec.post enc Tryz.prog Tryz.f6 false true false false):=by
 refine returnsInHanded_of_change_and (C:=Tryz.checked) (X:=fun w _=>laidMetH Tryz.prog doorLaid w) (fun _ _ _ hh h=>h.of_heap hh) door_own started (by kernel_rfl) Tryz.func6
  (ChangeSpec.witness_at (enc:=enc) (C:=Tryz.checked) (os:=os) (X:=fun w _=>laidMetH Tryz.prog doorLaid w) false (laidWorld os) #[.agg #[.int .i64 0,.slice none 0 0,.slice none 0 0],.slice none 0 0,.agg ((rgH 1).1.map bV).toArray] 8 rfl (by kernel_rfl) (by kernel_rfl) (by kernel_rfl) (by kernel_rfl) (by kernel_rfl) (laidWorld_met os _)) ?_
 intro W base args ds gs before hval0 hW hcnd hsz0 hL _
 have hG:=glob_of_laid hL
 have hval:∀ (j:Nat) t v,Tryz.f6.params[j]? = some t→args[j]? = some v→Value.okWide Tryz.prog W .any base t v:=hval0
 have hsz:(DataW.weightsEach Tryz.prog (Tryz.f6.params.toList++Rows.registryAddsSpec.plain.varTypes Tryz.prog) (ds++gs)).all (·≤reachBytes)=true:=hsz0
 have hW':=hW
 obtain ⟨p,q,hA0,hV,rfl,hfz,hnd⟩:=hW
 have hA:DataW.TrodAll enc Tryz.prog W 0 (fun _=>true) true Tryz.f6.params.toList args.toList ds p:=hA0
 obtain ⟨rfl,rfl⟩:=trodVars_none hV
 rw [Tryz.params6] at hA hval hsz
 have hA1:=hA
 obtain ⟨v0,vs0,d0,ds0,p0,q0,hargs,rfl,rfl,h0,r0⟩:=trodAll_cons hA
 obtain ⟨v1,vs1,d1,ds1,p1,q1,rfl,rfl,rfl,h1,r1⟩:=trodAll_cons r0
 obtain ⟨v2,vs2,d2,ds2,p2,q2,rfl,rfl,rfl,h2,r2⟩:=trodAll_cons r1
 obtain ⟨rfl,rfl,rfl⟩:=trodAll_nil r2
 obtain rfl:args=#[v0,v1,v2]:=by cases args;simp_all
 have z0:Sized Tryz.prog 25 d0:=sized_of_each (j:=0) hsz rfl rfl
 have k0:Value.okWide Tryz.prog W .any base 25 v0:=hval 0 _ _ rfl rfl
 have z1:Sized Tryz.prog 26 d1:=sized_of_each (j:=1) hsz rfl rfl
 have k1:Value.okWide Tryz.prog W .any base 26 v1:=hval 1 _ _ rfl rfl
 have z2:Sized Tryz.prog 39 d2:=sized_of_each (j:=2) hsz rfl rfl
 have k2:Value.okWide Tryz.prog W .any base 39 v2:=hval 2 _ _ rfl rfl
 clear hA0 hval0 hsz hsz0 hval
 have key:Calls Tryz.prog 6 #[v0,v1,v2] W (Gives (.bool true) W):=by
  obtain ⟨s,cs,rfl,hs⟩:=open_schema h0 z0 k0
  obtain ⟨l,hlo,hll,hl⟩:=open_sps h1 z1 k1
  obtain ⟨m,hm⟩:=open_hash h2 k2
  exact door_gives (vs:=[.agg cs.toArray,v1,v2]) (adds_d s l m hs.ok hll hlo) (by simp only [RepL];exact ⟨_,_,rfl,rep_sch (fun b i _=>fix_nilD b i) hs,_,_,rfl,hl _ _ fix_nilD,_,_,rfl,hm _ _,rfl⟩) (by intro _ _;kernel_rfl) hG
 refine key.mono fun e W' ⟨he,bel⟩=>?_
 subst he
 exact ⟨_,rfl,_,_,_,[],_,[],hW',trodAll_mk1 (shut_bool Tryz.underlying4 _),trodAll_below door_laidOut bel (by kernel_rfl) hA1,rfl,bel.frame _,fun h=>by cases h⟩

theorem registryAdds_row:Rows.RegistryAddsSaid :=
 OpenClaim.holds_of_wide 6 Tryz.f6 rfl rfl rfl rfl rfl rfl rfl ⟨rfl,rfl,rfl,rfl,rfl⟩ rfl rfl rfl rfl rfl (by kernel_rfl) Tryz.func6 (by kernel_rfl)
  (of_decide_eq_true (by kernel_rfl)) (by unfold Func.isWrapper;first | (rw [if_pos (by decide +kernel)];kernel_rfl) | (rw [if_neg (by decide +kernel)];exact ⟨rfl,rfl⟩))
  (fun os started H enc _=>registryAdds_lifted os started H enc)
theorem registryAdds_holds:Rows.RegistryAddsCardSaid :=
 Claim7.holds_tied_plain_at .later [] [.handle] true Rows.registryAddsCard.stood.harness true
  registryAdds_row (fun _ h=>by cases h) (by kernel_rfl) (fun _ h=>by cases h) registryAdds_row_tie rfl ⟨rfl,rfl⟩ (by kernel_rfl) rfl
  (fun f fn hf hfn=>by
   obtain rfl:f=6:=Option.some.inj ((show Tryz.prog.funcNamed "dioptre/dioptrelaw20.RegistryAdds" = some 6 by kernel_rfl).symm.trans hf) |>.symm
   obtain rfl:fn=Tryz.f6:=(Option.some.inj (Tryz.func6.symm.trans hfn)).symm
   exact ⟨by kernel_rfl,fun j t ht=>by
    rw [Tryz.params6] at ht
    have ht':=List.mem_of_getElem? (Array.getElem?_toList ▸ ht)
    simp only [List.mem_cons,List.not_mem_nil,or_false] at ht'
    rcases ht' with rfl | rfl | rfl <;> exact (show Tryz.prog.wantsStandIn _=false by kernel_rfl)⟩)
  (by kernel_rfl)
#print axioms registryAdds_holds
end Go.Proofs.YtogbklnkpjjkoaaGreatDoor
