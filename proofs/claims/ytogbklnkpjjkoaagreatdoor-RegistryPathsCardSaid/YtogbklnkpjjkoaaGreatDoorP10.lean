/- RegistryPaths answers true for any schema and any steps, and leaves its arguments as they were. Conditions: none but the statement's own. -/
import Derived.Test.YtogbklnkpjjkoaaGreatDoorP9
import Derived.LaidEql
import Derived.Stop.Asserts
import Derived.RowKitTokens
import Derived.Test.YtogbklnkpjjkoaaGreatDoorCards
import Derived.Test.YtogbklnkpjjkoaaGreatDoorTie
import Derived.SevenTiedAt
import Derived.RowKit
set_option linter.unusedVariables false
set_option linter.unusedSimpArgs false
namespace Go.Proofs.YtogbklnkpjjkoaaGreatDoor
open Go.RowKit Go.Extern.Stop Go.Stop Go.Extern
/-! The value that a tree without memory stands for. -/
mutual
def D.val:D→Option Value
 | .v x=>some x
 | .ifc t d=>(D.val d).map (Value.iface t ·)
 | .agg cs=>(valL cs).bind fun vs=>bif vs.all (·.oneCell') then some (.agg vs.toArray) else none
 | _=>none
def valL:List D→Option (List Value)
 | []=>some []
 | d::l=>(D.val d).bind fun x=>(valL l).map (x::·)
end
section
variable {P : Program} {w : World} {η : Names} {X : Nat → Nat → Prop}
mutual
theorem rep_val_iff:∀ {d:D} {x:Value},D.val d=some x→∀ {y:Value},Rep P w η X d y↔y=x
 | .v x,_,h,y=>by simp only [D.val,Option.some.injEq] at h;subst h;simp only [Rep]
 | .ifc t d,_,h,y=>by
  simp only [D.val,Option.map_eq_some_iff] at h
  obtain ⟨z,h1,rfl⟩:=h
  simp only [Rep]
  constructor
  ·rintro ⟨u,rfl,hu⟩
   rw [(rep_val_iff h1).1 hu]
  ·rintro rfl
   exact ⟨z,rfl,(rep_val_iff h1).2 rfl⟩
 | .agg cs,_,h,y=>by
  simp only [D.val,Option.bind_eq_some_iff] at h
  obtain ⟨vs,h1,h2⟩:=h
  cases hb:vs.all (·.oneCell') with
  | false=>rw [hb] at h2;cases h2
  | true =>
   rw [hb] at h2
   simp only [cond_true,Option.some.injEq] at h2
   subst h2
   simp only [Rep]
   constructor
   ·rintro ⟨us,rfl,hu,_⟩
    rw [(rep_valL_iff h1).1 hu]
   ·rintro rfl
    exact ⟨vs,rfl,(rep_valL_iff h1).2 rfl,fun u hu=>List.all_eq_true.1 hb u hu⟩
 | .tup _,_,h,_=>by simp [D.val] at h
 | .fn _ _ _,_,h,_=>by simp [D.val] at h
 | .loc _ _,_,h,_=>by simp [D.val] at h
 | .rd _ _,_,h,_=>by simp [D.val] at h
 | .sl _ _,_,h,_=>by simp [D.val] at h
 | .win _ _ _ _,_,h,_=>by simp [D.val] at h
theorem rep_valL_iff:∀ {l:List D} {vs:List Value},valL l=some vs→∀ {us:List Value},RepL P w η X l us↔us=vs
 | [],_,h,us=>by simp only [valL,Option.some.injEq] at h;subst h;simp only [RepL]
 | d::l,_,h,us=>by
  simp only [valL,Option.bind_eq_some_iff,Option.map_eq_some_iff] at h
  obtain ⟨x,h1,xs,h2,rfl⟩:=h
  simp only [RepL]
  constructor
  ·rintro ⟨y,ys,rfl,hy,hys⟩
   rw [(rep_val_iff h1).1 hy,(rep_valL_iff h2).1 hys]
  ·rintro rfl
   exact ⟨x,xs,rfl,(rep_val_iff h1).2 rfl,(rep_valL_iff h2).2 rfl⟩
end
end
section
variable {P : Program} {S : St} {K : D → St → Prop}
theorem dext {g:FuncId} {fn:Func} {e:Array Value→Sem Value} (hf:P.funcs[g]? = some fn) (hname:(fn.name == "runtime.NumGoroutine")=false) (hb:fn.body.isNone=true) (hn:Extern.findNext fn=none) (hx:Extern.find fn=some e) {args:List D}
  (h:∀ base η w vs,Mem P base S η w→RepL P w η (Fix P S η) args vs→∃ d S' η' v w',(e vs.toArray).run P w=.ok v w'∧K d S'∧Rep P w' η' (Fix P S' η') d v∧Goes P base S η w S' η' w'):DCalls P g args S K:=fun base η w vs hM hr=>by
 obtain ⟨d,S',η',v,w',h1,h2,h3,h4⟩:=h base η w vs hM hr
 refine .inr ⟨d,S',η',v,w',?_,h2,h3,h4⟩
 rw [run_callFunc_extern hf hname hb hn hx,h1]
 rfl
theorem dext_pure {g:FuncId} {fn:Func} {e:Array Value→Sem Value} (hf:P.funcs[g]? = some fn) (hname:(fn.name == "runtime.NumGoroutine")=false) (hb:fn.body.isNone=true) (hn:Extern.findNext fn=none) (hx:Extern.find fn=some e) {args:List D} {us:List Value} {r:Value} {d:D}
  (hv:valL args=some us) (h:∀ w,(e us.toArray).run P w=.ok r w) (hd:D.val d=some r) (hk:K d S):DCalls P g args S K :=
 dext hf hname hb hn hx fun base η w vs hM hr=>by
  rw [(rep_valL_iff hv).1 hr]
  exact ⟨d,S,η,r,w,h w,hk,(rep_val_iff hd).2 rfl,Goes.refl hM⟩
theorem dmeth_pure {t:TypeId} {d d':D} {m:String} {g:FuncId} {x r:Value} (hd:D.val d=some x) (hd':D.val d'=some r) (h:∀ w,(method (P.types.size+Made.depth) t x m).run P w=.ok (g,r) w):DMeth P t d m g d':=fun w η X v hr=>by
 rw [(rep_val_iff hd).1 hr]
 exact ⟨r,h w,(rep_val_iff hd').2 rfl⟩
end
abbrev tyV (t:TypeId):Value:=.pointer (some ⟨1,t,none⟩)
abbrev tyD (t:TypeId):D:=.agg [.v (tyV t)]
abbrev rtD (t:TypeId):D:=.ifc 153 (tyD t)
theorem rlm (z:Sem Value) (f:TypeId→Addr→Nat→Nat→Sem Value) (v:Value) :
  ReflectliteValue.method z f #[v]=(do match ← ReflectliteValue.parts v with | none=>z | some (t,a,fl)=>f t a fl (fl % 32)):=rfl
theorem rls (v x:Value):ReflectliteValue.set #[v,x]=(do
  let (some (dst,a,fl),some (src,b,_)):=(← ReflectliteValue.parts v,← ReflectliteValue.parts x)
   | unsupported (.noEntry "extern/(internal/reflectlite.Value).Set.zeroValue")
  if fl / ReflectliteValue.flagAddr % 2 == 0 then unsupported (.noEntry "extern/(internal/reflectlite.Value).Set.unaddressable")
  let val ← loadVar src b
  if ← Rtype.directlyAssignable dst src then storeVar dst a val
  else if ← Rtype.implements dst src then
   if (← Rtype.kind src) == 20 then
    match val with
    | .nilIface=>unsupported (.noEntry "extern/reflectlite: a nil value of one interface type handed on as a value of another")
    | _=>storeVar dst a val
   else storeVar dst a (.iface src val)
  else panicString ("reflectlite.Set: value of type " ++ (← Rtype.spelt src) ++ " is not assignable to type " ++ (← Rtype.spelt dst))
  pure (.tuple #[])):=rfl

section
variable {S : St} {K : D → St → Prop}
theorem unpackPEr (a:Addr) (w:World):(ReflectliteValue.unpack (.iface 114 (.pointer (some a)))).run Tryz.prog w=.ok (.agg #[tyV 114,.pointer (some ⟨w.heap.size,0,none⟩),.int .u64 150]) (w.alloc (.cells #[.pointer (some a)] 114)):=by kernel_rfl
theorem rlValueOfPEr {k off:Nat} (h:K (.agg [.v (tyV 114),.loc S.next 0,.v (.int .u64 150)]) (S.add (.box 114 [.loc k off]))):DCalls Tryz.prog 59 [.ifc 114 (.loc k off)] S K :=
 dext (e:=fun args=>ReflectliteValue.unpack (args.getD 0 (.tuple #[]))) Tryz.func59 (by kernel_rfl) (by kernel_rfl) (by kernel_rfl) (by kernel_rfl) fun base η w vs hM hr=>by
  simp only [RepL,Rep] at hr
  obtain ⟨_,_,rfl,⟨_,rfl,b,hb,rfl⟩,rfl⟩:=hr
  have G:=goes_name hM (.box 114 [.loc k off]) #[.pointer (some ⟨b,off,none⟩)] 114 (.inl ⟨_,[.pointer (some ⟨b,off,none⟩)],rfl,rfl,by simp only [RepL,Rep];exact ⟨_,_,rfl,⟨b,hb,rfl⟩,rfl⟩,fun x hx=>by rw [List.mem_singleton] at hx;subst hx;rfl⟩)
  refine ⟨_,_,_,_,_,unpackPEr _ w,h,?_,G⟩
  simp only [Rep,RepL]
  exact ⟨[_,_,_],rfl,⟨_,_,rfl,rfl,_,_,rfl,⟨w.heap.size,by simp only [Names.add,↓reduceIte],rfl⟩,_,_,rfl,rfl,rfl⟩,fun x hx=>by simp only [List.mem_cons,List.not_mem_nil,or_false] at hx;rcases hx with rfl | rfl | rfl <;> rfl⟩
theorem typePEr (a:Addr) (w:World):(ReflectliteValue.methodAny (ReflectliteValue.valueError "reflectlite.Value.Type" 0) (fun t _ _ _=>ReflectliteType.toType t) #[.agg #[tyV 114,.pointer (some a),.int .u64 150]]).run Tryz.prog w=.ok (.iface 153 (.agg #[tyV 114])) w:=by kernel_rfl
theorem rlTypePEr {k off:Nat} (h:K (rtD 114) S):DCalls Tryz.prog 60 [.agg [.v (tyV 114),.loc k off,.v (.int .u64 150)]] S K :=
 dext (e:=ReflectliteValue.methodAny (ReflectliteValue.valueError "reflectlite.Value.Type" 0) (fun t _ _ _=>ReflectliteType.toType t)) Tryz.func60 (by kernel_rfl) (by kernel_rfl) (by kernel_rfl) (by kernel_rfl) fun base η w vs hM hr=>by
  simp only [RepL,Rep] at hr
  obtain ⟨_,_,rfl,⟨_,rfl,⟨_,_,rfl,rfl,_,_,rfl,⟨b,hb,rfl⟩,_,_,rfl,rfl,rfl⟩,_⟩,rfl⟩:=hr
  exact ⟨_,S,η,_,w,typePEr _ w,h,(rep_val_iff (d:=rtD 114) rfl).2 rfl,Goes.refl hM⟩
theorem partsPEr (a:Addr) (w:World):(ReflectliteValue.parts (.agg #[tyV 114,.pointer (some a),.int .u64 150])).run Tryz.prog w=.ok (some (114,a,150)) w:=by kernel_rfl
theorem rlIsNilPEr {b k off:Nat} (hb:S.ob b=some (.box 114 [.loc k off])) (h:K (.v (.bool false)) S):DCalls Tryz.prog 61 [.agg [.v (tyV 114),.loc b 0,.v (.int .u64 150)]] S K :=
 dext (e:=ReflectliteValue.method (ReflectliteValue.valueError "reflectlite.Value.IsNil" 0) ReflectliteValue.isNil) Tryz.func61 (by kernel_rfl) (by kernel_rfl) (by kernel_rfl) (by kernel_rfl) fun base η w vs hM hr=>by
  simp only [RepL,Rep] at hr
  obtain ⟨_,_,rfl,⟨_,rfl,⟨_,_,rfl,rfl,_,_,rfl,⟨q,hq,rfl⟩,_,_,rfl,rfl,rfl⟩,_⟩,rfl⟩:=hr
  obtain ⟨us,g1,g2,g3⟩:=hM.box b _ _ q hb hq
  simp only [RepL,Rep] at g2
  obtain ⟨_,_,rfl,⟨p,hp,rfl⟩,rfl⟩:=g2
  have ha:w.cell? ⟨q,0,none⟩=some (.pointer (some ⟨p,off,none⟩)):=by simp [World.cell?,g1]
  refine ⟨_,S,η,.bool false,w,?_,h,by simp only [Rep],Goes.refl hM⟩
  rw [rlm]
  simp only [Sem.run_bind,partsPEr,Result.andThen]
  simp [ReflectliteValue.isNil,loadVar,isAgg,underlying,Tryz.underlying114,ha,Result.andThen]
theorem elemOfPEr (w:World):(Rtype.elem? 114).run Tryz.prog w=.ok (some 104) w:=by kernel_rfl
theorem mkPEr (p:Addr) (w:World):(ReflectliteValue.mk 104 p ReflectliteValue.flagAddr).run Tryz.prog w=.ok (.agg #[tyV 104,.pointer (some p),.int .u64 386]) w:=by kernel_rfl
theorem rlElemPEr {b k off:Nat} (hb:S.ob b=some (.box 114 [.loc k off])) (h:K (.agg [.v (tyV 104),.loc k off,.v (.int .u64 386)]) S):DCalls Tryz.prog 87 [.agg [.v (tyV 114),.loc b 0,.v (.int .u64 150)]] S K :=
 dext (e:=ReflectliteValue.method (ReflectliteValue.valueError "reflectlite.Value.Elem" 0) ReflectliteValue.elem) Tryz.func87 (by kernel_rfl) (by kernel_rfl) (by kernel_rfl) (by kernel_rfl) fun base η w vs hM hr=>by
  simp only [RepL,Rep] at hr
  obtain ⟨_,_,rfl,⟨_,rfl,⟨_,_,rfl,rfl,_,_,rfl,⟨q,hq,rfl⟩,_,_,rfl,rfl,rfl⟩,_⟩,rfl⟩:=hr
  obtain ⟨us,g1,g2,g3⟩:=hM.box b _ _ q hb hq
  simp only [RepL,Rep] at g2
  obtain ⟨_,_,rfl,⟨p,hp,rfl⟩,rfl⟩:=g2
  have ha:w.cell? ⟨q,0,none⟩=some (.pointer (some ⟨p,off,none⟩)):=by simp [World.cell?,g1]
  refine ⟨_,S,η,.agg #[tyV 104,.pointer (some ⟨p,off,none⟩),.int .u64 386],w,?_,h,?_,Goes.refl hM⟩
  ·rw [rlm]
   simp only [Sem.run_bind,partsPEr,Result.andThen]
   simp [ReflectliteValue.elem,loadVar,isAgg,underlying,Tryz.underlying114,ha,Result.andThen,elemOfPEr,mkPEr]
  ·simp only [Rep,RepL]
   exact ⟨[_,_,_],rfl,⟨_,_,rfl,rfl,_,_,rfl,⟨p,hp,rfl⟩,_,_,rfl,rfl,rfl⟩,fun x hx=>by simp only [List.mem_cons,List.not_mem_nil,or_false] at hx;rcases hx with rfl | rfl | rfl <;> rfl⟩
theorem methKindPEr:DMeth Tryz.prog 153 (tyD 114) "Kind" 193 (.v (tyV 114)):=dmeth_pure rfl rfl fun w=>by kernel_rfl
theorem methKindEr:DMeth Tryz.prog 153 (tyD 104) "Kind" 193 (.v (tyV 104)):=dmeth_pure rfl rfl fun w=>by kernel_rfl
theorem rlKindPEr (h:K (.v (.int .u8 22)) S):DCalls Tryz.prog 193 [.v (tyV 114)] S K :=
 dext_pure (e:=ReflectliteType.abiMethod fun t=>do pure (.int .u8 (← Rtype.kind t))) Tryz.func193 (by kernel_rfl) (by kernel_rfl) (by kernel_rfl) (by kernel_rfl) (r:=.int .u8 22) rfl (fun w=>by kernel_rfl) rfl h
theorem rlKindEr (h:K (.v (.int .u8 2)) S):DCalls Tryz.prog 193 [.v (tyV 104)] S K :=
 dext_pure (e:=ReflectliteType.abiMethod fun t=>do pure (.int .u8 (← Rtype.kind t))) Tryz.func193 (by kernel_rfl) (by kernel_rfl) (by kernel_rfl) (by kernel_rfl) (r:=.int .u8 2) rfl (fun w=>by kernel_rfl) rfl h
theorem methElemPEr:DMeth Tryz.prog 153 (tyD 114) "Elem" 203 (tyD 114):=dmeth_pure rfl rfl fun w=>by kernel_rfl
theorem rlTElemPEr (h:K (rtD 104) S):DCalls Tryz.prog 203 [tyD 114] S K :=
 dext_pure (e:=ReflectliteType.method ReflectliteType.elem) Tryz.func203 (by kernel_rfl) (by kernel_rfl) (by kernel_rfl) (by kernel_rfl) (r:=.iface 153 (.agg #[tyV 104])) rfl (fun w=>by kernel_rfl) rfl h
theorem methImplEr:DMeth Tryz.prog 153 (tyD 104) "Implements" 204 (tyD 104):=dmeth_pure rfl rfl fun w=>by kernel_rfl
theorem rlImplEr (h:K (.v (.bool true)) S):DCalls Tryz.prog 204 [tyD 104,rtD 66] S K :=
 dext_pure (e:=ReflectliteType.relation "Implements" ReflectliteType.implements_) Tryz.func204 (by kernel_rfl) (by kernel_rfl) (by kernel_rfl) (by kernel_rfl) (r:=.bool true) rfl (fun w=>by kernel_rfl) rfl h
theorem methAsgEr:DMeth Tryz.prog 153 (tyD 104) "AssignableTo" 201 (tyD 104):=dmeth_pure rfl rfl fun w=>by kernel_rfl
theorem rlAsgEr (h:K (.v (.bool true)) S):DCalls Tryz.prog 201 [tyD 104,rtD 104] S K :=
 dext_pure (e:=ReflectliteType.relation "AssignableTo" ReflectliteType.assignableTo) Tryz.func201 (by kernel_rfl) (by kernel_rfl) (by kernel_rfl) (by kernel_rfl) (r:=.bool true) rfl (fun w=>by kernel_rfl) rfl h
theorem typeOfEr (x:Value) (w:World):(ReflectliteType.typeOf #[.iface 104 x]).run Tryz.prog w=.ok (.iface 153 (.agg #[tyV 104])) w:=by kernel_rfl
theorem rlTypeOfEr {d:D} (h:K (rtD 104) S):DCalls Tryz.prog 86 [.ifc 104 d] S K :=
 dext (e:=ReflectliteType.typeOf) Tryz.func86 (by kernel_rfl) (by kernel_rfl) (by kernel_rfl) (by kernel_rfl) fun base η w vs hM hr=>by
  simp only [RepL,Rep] at hr
  obtain ⟨_,_,rfl,⟨x,rfl,_⟩,rfl⟩:=hr
  exact ⟨_,S,η,_,w,typeOfEr x w,h,(rep_val_iff (d:=rtD 104) rfl).2 rfl,Goes.refl hM⟩
end
abbrev erD (n:Int):D:=.ifc 104 (.v (.int .i64 n))
section
variable {P : Program} {S : St} {K : D → St → Prop}
end
section
variable {S : St} {K : D → St → Prop} {u : D}
end
theorem unpackEr (n:Int) (w:World):(ReflectliteValue.unpack (.iface 104 (.int .i64 n))).run Tryz.prog w=.ok (.agg #[tyV 104,.pointer (some ⟨w.heap.size,0,none⟩),.int .u64 130]) (w.alloc (.cells #[.int .i64 n] 104)):=by kernel_rfl
section
variable {S : St} {K : D → St → Prop}
theorem rlValueOfEr {n:Int} (h:K (.agg [.v (tyV 104),.loc S.next 0,.v (.int .u64 130)]) (S.add (.box 104 [.v (.int .i64 n)]))):DCalls Tryz.prog 59 [erD n] S K :=
 dext (e:=fun args=>ReflectliteValue.unpack (args.getD 0 (.tuple #[]))) Tryz.func59 (by kernel_rfl) (by kernel_rfl) (by kernel_rfl) (by kernel_rfl) fun base η w vs hM hr=>by
  simp only [RepL,Rep] at hr
  obtain ⟨_,_,rfl,⟨_,rfl,rfl⟩,rfl⟩:=hr
  have G:=goes_name hM (.box 104 [.v (.int .i64 n)]) #[.int .i64 n] 104 (.inl ⟨_,[.int .i64 n],rfl,rfl,by simp only [RepL,Rep];exact ⟨_,_,rfl,rfl,rfl⟩,fun x hx=>by rw [List.mem_singleton] at hx;subst hx;rfl⟩)
  refine ⟨_,_,_,_,_,unpackEr _ w,h,?_,G⟩
  simp only [Rep,RepL]
  exact ⟨[_,_,_],rfl,⟨_,_,rfl,rfl,_,_,rfl,⟨w.heap.size,by simp only [Names.add,↓reduceIte],rfl⟩,_,_,rfl,rfl,rfl⟩,fun x hx=>by simp only [List.mem_cons,List.not_mem_nil,or_false] at hx;rcases hx with rfl | rfl | rfl <;> rfl⟩
end

theorem partsEra (a:Addr) (w:World):(ReflectliteValue.parts (.agg #[tyV 104,.pointer (some a),.int .u64 386])).run Tryz.prog w=.ok (some (104,a,386)) w:=by kernel_rfl
theorem partsEr (a:Addr) (w:World):(ReflectliteValue.parts (.agg #[tyV 104,.pointer (some a),.int .u64 130])).run Tryz.prog w=.ok (some (104,a,130)) w:=by kernel_rfl
theorem directEr (w:World):(Rtype.directlyAssignable 104 104).run Tryz.prog w=.ok true w:=by kernel_rfl
theorem sizeEr (w:World):(sizeOf 104).run Tryz.prog w=.ok 1 w:=by kernel_rfl
theorem setEr {b a:Nat} {x:Value} {n:Int} {W:World} (hb:W.heap[b]? = some (.cells [x].toArray 104 (0,0))) (ha:W.cell? ⟨a,0,none⟩=some (.int .i64 n)) :
  (ReflectliteValue.set #[.agg #[tyV 104,.pointer (some ⟨b,0,none⟩),.int .u64 386],.agg #[tyV 104,.pointer (some ⟨a,0,none⟩),.int .u64 130]]).run Tryz.prog W=.ok (.tuple #[]) (W.setRow b [.int .i64 n].toArray):=by
 have q:=run_storeCells_at Tryz.prog b 0 104 [.int .i64 n] 0 [x].toArray W hb (by simp) (by simp [Value.oneCell'])
 rw [rls]
 simp only [Sem.run_bind,partsEra,partsEr,Result.andThen]
 simp [ReflectliteValue.flagAddr,loadVar,isAgg,underlying,Tryz.underlying104,ha,Result.andThen,directEr,storeVar,sizeEr,Value.cells] at q ⊢
 simp [q]
theorem rlSetEr {S:St} {K:D→St→Prop} {a b:Nat} {d0:D} {n:Int} (hb:S.ob b=some (.box 104 [d0])) (ha:S.ob a=some (.box 104 [.v (.int .i64 n)])) (h:K (.tup []) (S.set b (.box 104 [.v (.int .i64 n)]))) :
  DCalls Tryz.prog 88 [.agg [.v (tyV 104),.loc b 0,.v (.int .u64 386)],.agg [.v (tyV 104),.loc a 0,.v (.int .u64 130)]] S K :=
 dext (e:=ReflectliteValue.set) Tryz.func88 (by kernel_rfl) (by kernel_rfl) (by kernel_rfl) (by kernel_rfl) fun base η w vs hM hr=>by
  simp only [RepL,Rep] at hr
  obtain ⟨_,_,rfl,⟨_,rfl,⟨_,_,rfl,rfl,_,_,rfl,⟨q,hq,rfl⟩,_,_,rfl,rfl,rfl⟩,_⟩,_,_,rfl,⟨_,rfl,⟨_,_,rfl,rfl,_,_,rfl,⟨p,hp,rfl⟩,_,_,rfl,rfl,rfl⟩,_⟩,rfl⟩:=hr
  obtain ⟨us,g1,g2,g3⟩:=hM.box b _ _ q hb hq
  obtain ⟨us',k1,k2,k3⟩:=hM.box a _ _ p ha hp
  simp only [RepL] at g2
  obtain ⟨x,_,rfl,hx,rfl⟩:=g2
  simp only [RepL] at k2
  obtain ⟨y,_,rfl,hy,rfl⟩:=k2
  have hy0:=hy
  simp only [Rep] at hy
  subst hy
  have hc:w.cell? ⟨p,0,none⟩=some (.int .i64 n):=by simp [World.cell?,k1]
  have G:=goes_set hM (cs':=[.v (.int .i64 n)]) (vs':=[_]) hb hq rfl (by simp only [RepL];exact ⟨_,_,rfl,hy0,rfl⟩) k3
  exact ⟨_,_,_,_,_,setEr g1 hc,h,by simp only [Rep,RepL];exact ⟨[],rfl,rfl⟩,G⟩

end Go.Proofs.YtogbklnkpjjkoaaGreatDoor
namespace Go.Proofs.YtogbklnkpjjkoaaGreatDoor
open Go.RowKit
theorem bnil_eq0 (k:Nat):dbin Tryz.prog .eql 66 (.tmp k) (.const .nilIface) (.v .nilIface) (.v .nilIface)=some (True,.v (.bool true)):=by kernel_rfl
set_option maxRecDepth 200000 in
set_option maxHeartbeats 4000000 in
theorem as0Walk {S:St} {n:Int} {x0:D} {kb kc:Nat} {K:D→St→Prop} (hk:S.ob kc=some (.box 104 [x0])) (hb:S.ob kb=some (.box 114 [.loc kc 0]))
  (h:∀ T,S.next≤T.next→T.WF→(∀ j o,j ≠ kc→S.ob j=some o→T.ob j=some o)→T.ob kc=some (.box 104 [.v (.int .i64 n)])→K (.v (.bool true)) T) :
  DCalls Tryz.prog 62 [erD n,.ifc 114 (.loc kc 0),.agg [.v (tyV 114),.loc kb 0,.v (.int .u64 150)],rtD 104] S K:=by
 refine dcalls_inline mixed Tryz.func62 rfl (fun _ _=>by kernel_rfl) (rs:=[.tmp 8]) rfl (by kernel_rfl) (fun hS=>?_)
 (refine dd0 ?_)
 (refine dloop_st (fun t=>List.contains [0,8,9,10,11,12,14,15,16,17,18,19,20,21,22,23,24,25,26,27,28,29,30,31,32,33,34,35,36,37,38,39,40,41,42,43,44,45,46,47,48,49,50,51,52,53,54,55,56,57,58,59,60,61] t) (by kernel_rfl) ?_ (0) (fun i f=>i≤0∧f 0=erD n∧f 8=.v (.bool false)) ?_ ?_;(exact wfA);(exact ⟨(by omega),(by exact di0),(by exact di0)⟩);intro i g tn hn hT hg hI;obtain ⟨le,q0,q8⟩:=hI;have q1:=hg 1 rfl;have q3:=hg 3 rfl;have q6:=hg 6 rfl;simp (disch:=first | decide | omega | (simp only [nx];first | done | omega)) only [go_sem] at q1 q3 q6;clear hg;have hn':=hn;try simp only [add_next,set_next,grow_next,leave_next,drop_next] at hn')
 have hB:∀ j o,S.ob j=some o→(St.mk tn (S.add (.box 128 [.v (tyV 114),.loc kb 0,.v (.int .u64 150)])).ob).ob j=some o:=fun j o ho=>by
  have hkl:=hS.lt ho
  show (if j=S.next then _ else S.ob j)=_
  rw [if_neg (by omega),ho]
 (refine dd4 @q0 @q1 @q3 @q6 ?_)
 refine rlTypeOfEr ?_
 (refine dd4 @q0 @q1 @q3 @q6 ?_)
 refine dinvoke_mk methAsgEr (rlAsgEr ?_)
 (refine dd4 @q0 @q1 @q3 @q6 ?_)
 refine rlElemPEr (hB _ _ hb) ?_
 (refine dd4 @q0 @q1 @q3 @q6 ?_)
 refine rlValueOfEr ?_
 (refine dd4 @q0 @q1 @q3 @q6 ?_)
 have hkc:=hS.lt hk
 have hkn:kc ≠ tn:=by omega
 refine rlSetEr (d0:=x0) (n:=n) ?_ ?_ ?_
 ·show (if kc=tn then _ else _)=_
  rw [if_neg hkn];exact hB _ _ hk
 ·show (if tn=tn then _ else _)=_
  rw [if_pos rfl]
 (refine dd4 @q0 @q1 @q3 @q6 ?_)
 refine h _ ?_ ?_ (fun j o hj ho=>?_) ?_
 ·show S.next≤tn+1
  omega
 ·exact wfA
 ·show (if j=kc then _ else if j=tn then _ else _)=_
  have:=hS.lt ho
  rw [if_neg hj,if_neg (by omega)];exact hB _ _ ho
 ·show (if kc=kc then _ else _)=_
  rw [if_pos rfl]
set_option maxRecDepth 200000 in
set_option maxHeartbeats 4000000 in
theorem as0 {S:St} {n:Int} {x0:D} {kc:Nat} {K:D→St→Prop} (hk:S.ob kc=some (.box 104 [x0]))
  (h:∀ T,S.next≤T.next→T.WF→(∀ j o,j ≠ kc→S.ob j=some o→T.ob j=some o)→T.ob kc=some (.box 104 [.v (.int .i64 n)])→K (.v (.bool true)) T) :
  DCalls Tryz.prog 48 [erD n,.ifc 114 (.loc kc 0)] S K:=by
 refine dcalls_inline mixed Tryz.func48 rfl (fun _ _=>by kernel_rfl) (rs:=[.tmp 4]) rfl (by kernel_rfl) (fun hS=>?_)
 unfold erD
 (refine dd0 ?_)
 refine rlValueOfPEr ?_
 (refine dd0 ?_)
 refine rlTypePEr ?_
 (refine dd0 ?_)
 have k22:((22:Int) != 22)=false:=by decide
 have k20:((2:Int) != 20)=true:=by decide
 refine dinvoke_mk methKindPEr (rlKindPEr ?_)
 (refine dd1 @k22 ?_)
 refine rlIsNilPEr (k:=kc) (off:=0) ?_ ?_
 ·exact di0
 (refine dd1 @k22 ?_)
 refine dinvoke_mk methElemPEr (rlTElemPEr ?_)
 (refine dd0 ?_)
 refine dinvoke_mk methKindEr (rlKindEr ?_)
 (refine dd1 @k20 ?_)
 refine dinvoke_mk methImplEr (rlImplEr ?_)
 (refine dd0 ?_)
 have hkc:=hS.lt hk
 have hB:∀ j o,S.ob j=some o→(((S.add (.box 114 [.loc kc 0])).add (.box 128 [.v (.pointer none),.v (.pointer none),.v (.int .u64 0)])).set (S.next+1) (.box 128 [.v (tyV 114),.loc S.next 0,.v (.int .u64 150)])).ob j=some o:=fun j o ho=>by
  have hkl:=hS.lt ho
  show (if j=S.next+1 then _ else if j=S.next+1 then _ else if j=S.next then _ else S.ob j)=_
  rw [if_neg (by omega),if_neg (by omega),if_neg (by omega),ho]
 refine as0Walk (hB _ _ hk) (kb:=S.next) ?_ fun T t1 t2 t3 t4=>?_
 ·exact di0
 (refine dd0 ?_)
 exact h T (by have:S.next+1+1≤T.next:=t1;omega) t2 (fun j o hj ho=>t3 j o hj (hB _ _ ho)) t4
theorem code0_nil:DPure Tryz.prog 30 [.v .nilIface] (.v (.int .i64 0)):=by
 refine dpure_of_dwp mixed Tryz.func30 rfl (fun _ _=>by kernel_rfl) (rs:=[.tmp 2]) rfl (by kernel_rfl) trivial (fun S hS=>?_)
 (refine dd1 @bnil_eq0 ?_)
 refine pendL ?_
 rfl
theorem code0_er (n:Int):DPure Tryz.prog 30 [erD n] (.v (.int .i64 n)):=by
 refine dpure_of_dwp mixed Tryz.func30 rfl (fun _ _=>by kernel_rfl) (rs:=[.tmp 2]) rfl (by kernel_rfl) trivial (fun S hS=>?_)
 unfold erD
 (refine dd0 ?_)
 refine as0 (x0:=.v (.int .i64 0)) ?_ fun T t1 t2 t3 t4=>?_
 ·show (if S.next=S.next then _ else _)=_
  rw [if_pos rfl]
 (refine dd1 @t4 ?_)
 have hsub:S.Sub T:=⟨by have:S.next+1≤T.next:=t1;omega,fun j o ho=>t3 j o (by have:=hS.lt ho;omega) (by have:=hS.lt ho;show (if j=S.next then _ else _)=_;rw [if_neg (by omega),ho])⟩
 refine pendL ?_
 rfl
def fromN (vs:List DVer) (b:UInt8):H32:=if b.toNat<250 then nmAt vs (b.toNat % vs.length) else rgH 98
noncomputable def stepR (vs:List DVer) (x:DRst):List DVer × Int:=addR vs x.name (fromN vs x.frm) x.lens (tgS x.lens)
noncomputable def mdV (s:DSch) (ls:List DRst) (i:Nat):List DVer:=(ls.take i).foldl (fun vs x=>(stepR vs x).1) [rootV (rgH 99) s]
theorem mdV_succ {s:DSch} {ls:List DRst} {i:Nat} (h:i<ls.length):mdV s ls (i+1)=(stepR (mdV s ls i) ls[i]).1:=by
 rw [mdV,List.take_succ_eq_append_getElem h,List.foldl_append];rfl
theorem stepR_len (vs:List DVer) (x:DRst):(stepR vs x).1.length≤vs.length+1:=by
 rcases addR_cases vs x.name (fromN vs x.frm) x.lens (tgS x.lens) with ⟨e,_⟩ | ⟨k,hk,_,_,_,e⟩
 ·rw [stepR,e];omega
 ·rw [stepR,e];simp
theorem mdV_len (s:DSch) (ls:List DRst):∀ i,i≤ls.length→(mdV s ls i).length≤i+1
 | 0,_=>Nat.le_refl _
 | i+1,h=>by
  have ih:=mdV_len s ls i (by omega)
  have:=stepR_len (mdV s ls i) (ls[i]'(by omega))
  rw [mdV_succ (by omega)]
  omega
theorem mdV_ok {s:DSch} {ls:List DRst} (hs:okS s) (hr:rightS 5 s=true) (hl:∀ x∈ls,okL x.lens∧roomL 8 x.lens=true):∀ i,i≤ls.length→OkR (mdV s ls i)
 | 0,_=>okR_root hs hr
 | i+1,h=>by
  have ih:=mdV_ok hs hr hl i (by omega)
  have hx:=hl _ (List.getElem_mem (show i<ls.length by omega))
  rw [mdV_succ (by omega)]
  exact addR_ok ih _ _ _ hx.1 hx.2
theorem codeO (n:Int):DPure Tryz.prog 30 [erO' n] (.v (.int .i64 n)):=by
 unfold erO'
 by_cases h:n=0
 ·rw [if_pos h,h];exact code0_nil
 ·rw [if_neg h];exact code0_er n
attribute [local go_sem] cl_Sp okCell_Sp cl_RV okCell_RV
def MadeK (s:DSch) (ls:List DRst) (S:St) (d:D) (T:St):Prop :=
 if s.kind=5∧rightS 5 s=true then ∃ k F,d=.tup [.loc k 0,.sl .no ((rvs (mdV s ls ls.length)).map encRV),.v (.bool true)]∧RegAt k F (mdV s ls ls.length) T∧(∀ q,F q→S.next≤q)∧S.Sub T
 else d=.tup [.v (.pointer none),.sl .full [],.v (.bool true)]∧S.Sub T
section
set_option maxRecDepth 200000
set_option maxHeartbeats 8000000
theorem made_a {S:St} (s:DSch) (own:Own) (ls:List DRst) (hs:okS s) (hw:s.weight≤1000000) (hl:ls.length≤14) (hok:∀ x∈ls,okL x.lens∧roomL 8 x.lens=true) :
  DCalls Tryz.prog 11 [encS s,.sl own (ls.map encSp)] S (MadeK s ls S):=by
 refine dcalls_inline mixed Tryz.func11 rfl (fun _ _=>by kernel_rfl) (rs:=[.tmp 4,.tmp 5,.tmp 6]) rfl (by kernel_rfl) (fun hS=>?_)
 (refine dd1 @placeR ?_)
 generalize hX:St.set (St.add (St.add S _) _) _ _=S1
 have hs1:S.Sub S1:=by rw [← hX];exact (((St.Sub.refl S).add hS _).add hS _).set hS (by omega) _
 have hW1:S1.WF:=by rw [← hX];exact ((hS.add _).add _).set (by show S.next+1<S.next+1+1;omega) _
 have hn1:S1.next=S.next+2:=by rw [← hX];rfl
 have b2:S1.ob S.next=some (.box 25 (encS s).cells):=by rw [← hX];exact di0
 have b7:S1.ob (S.next+1)=some (.box 39 ((rgH 99).1.map bD)):=by rw [← hX];exact di0
 clear hX
 have l99:=(rgH 99).2
 have hsd:=DSch.depth_weight s.depth s (Nat.le_refl _)
 refine dcalls_argEq (args':=[encH (rgH 99),encS s]) (by simp only [frzL,frz_encS];rfl) ?_
 refine DCalls.mono (DCalls.wf (new_a (rgH 99) s hs hw)) ?_
 rintro d T0 ⟨⟨hd,hs0⟩,hT0⟩
 have c2:=hs0.ob _ _ b2
 have c7:=hs0.ob _ _ b7
 have e20:(s.kind == 5 && rightS 5 s)=decide (s.kind=5∧rightS 5 s=true):=by
  rw [Bool.eq_iff_iff,Bool.and_eq_true,beq_iff_eq,decide_eq_true_eq]
 by_cases hR:s.kind=5∧rightS 5 s=true
 ·rw [if_pos hR] at hd
  obtain ⟨k,F0,rfl,hr0,hF0⟩:=hd
  rw [decide_eq_true hR] at e20
  (refine dd1 @c2 ?_)
  refine DCalls.of_pure (right20_d s hs (by omega)) ?_
  rw [e20]
  (refine dd4 @rnil_ne @c2 @c7 @l99 ?_)
  refine DCalls.of_pure (new20_d (rgH 99) s) ?_
  (refine dd0 ?_)
  have hsT0:=hs1.trans hs0
  have hn0:=hs0.next
  have hmok:=mdV_ok (ls:=ls) hs hR.2 hok
  refine dloop_up (fun t=>List.contains [4,5,6,10,11,12,13,14,15,16,43,44,45,46,47,48,49,50,51,52,53,54,55,56,57,58,59,60,61,62,63,64,65,66,67,68,69,70,71,72,73,74,75,76,77,78,79,80,81,82,83,84,85,86,87,88,89,90,91,92,93,94,95,96,97,98,99,100,101] t) (by kernel_rfl) hT0 ls.length (fun i q T=>i≤ls.length∧q 11=.v (.int .i64 ((i:Nat):Int))∧q 10=.sl .no ((rvs (mdV s ls i)).map encRV)∧S.Sub T∧S1.next≤T.next∧∃ F,RegAt k F (mdV s ls i) T∧∀ x,F x→S1.next≤x)
   ⟨Nat.zero_le _,by exact di0,by simp (disch:=first | decide | omega | (simp only [nx];first | done | omega)) only [go_sem];rfl,hsT0,hn0,F0,hr0,hF0⟩ ?_
  rintro i q T hT hg ⟨le,q11,q10,hsT,hnT,F,hrT,hF⟩
  (have q1:=hg 1 rfl;have q8:=hg 8 rfl;simp (disch:=first | decide | omega | (simp only [nx];first | done | omega)) only [go_sem] at q1 q8;clear hg)
  by_cases hlt:i<ls.length
  ·have d1:decide ((i:Int)<(ls.length:Int))=true:=decide_eq_true (by omega)
   have w1:IntKind.i64.wrap ((i:Int)+1)=((i+1:Nat):Int):=IntWalk.i64_in _ ⟨by omega,by omega⟩
   have hget:=getD_map encSp ls i hlt
   have hb:bD ls[i].frm=.v (.int .u8 ((ls[i].frm.toNat:Nat):Int)):=rfl
   have hfl:ls[i].frm.toNat<256:=UInt8.toNat_lt _
   have w2:IntKind.i64.wrap ((ls[i].frm.toNat:Nat):Int)=((ls[i].frm.toNat:Nat):Int):=IntWalk.i64_in _ ⟨by omega,by omega⟩
   (refine dd11 @q1 @q11 @d1 @placeR @hget @hlt @sp_frm @hb @w2 @cv_u8 @Option.map_some.{0,0} ?_)
   generalize hX:St.set (St.add T _) _ _=T1
   have h01:T.Sub T1:=by rw [← hX];exact ((St.Sub.refl T).add hT _).set hT (Nat.le_refl _) _
   have hW1':T1.WF:=by rw [← hX];exact (hT.add _).set (Nat.lt_succ_self _) _
   have b12:T1.ob T.next=some (.box 39 ((rgH 98).1.map bD)):=by rw [← hX];exact di0
   clear hX
   have ovs:=hmok i (by omega)
   have lvs:=mdV_len s ls i (by omega)
   have pvs:=ovs.pos
   have e1:=mdV_succ (s:=s) hlt
   generalize mdV s ls i=vs at *
   refine dIf_cut (fun f' T'=>f' 1=.sl own (ls.map encSp)∧f' 8=.loc k 0∧f' 10=.sl .no ((rvs vs).map encRV)∧f' 11=.v (.int .i64 ((i:Nat):Int))∧f' 12=.loc T.next 0∧T'.WF∧T.Sub T'∧T'.ob T.next=some (.box 39 ((fromN vs ls[i].frm).1.map bD))) ?_ ?_
   ·by_cases h250:ls[i].frm.toNat<250
    ·have d2:decide (((ls[i].frm.toNat:Nat):Int)<250)=true:=decide_eq_true (by omega)
     have hm:ls[i].frm.toNat % vs.length<vs.length:=Nat.mod_lt _ pvs
     have hm2:ls[i].frm.toNat % vs.length<(rvs vs).length:=by rw [rvs_len];exact hm
     have hg2:=getD_map encRV (rvs vs) _ hm2
     have hfr:fromN vs ls[i].frm=nmAt vs (ls[i].frm.toNat % vs.length):=by rw [fromN,if_pos h250]
     have hnm:(rvs vs)[ls[i].frm.toNat % vs.length].name=nmAt vs (ls[i].frm.toNat % vs.length):=by rw [rvs_get hm,nmAt_lt hm];rfl
     have hrem:∀ {x y:Operand},dbin Tryz.prog .rem 3 x y (.v (.int .i64 ((ls[i].frm.toNat:Nat):Int))) (.v (.int .i64 ((vs.length:Nat):Int)))=some (True,.v (.int .i64 ((ls[i].frm.toNat % vs.length:Nat):Int))):=fun {x y}=>bin_rem _ _ _ (by omega)
     have hln:=rvs_len vs
     have l32:=((rvs vs)[ls[i].frm.toNat % vs.length]).name.2
     have l98:=(rgH 98).2
     have hdr:List.drop 32 ((rgH 98).1.map bD)=[]:=List.drop_of_length_le (by rw [len_encH];omega)
     (simp (disch:=first | decide | omega | (simp only [nx];first | done | omega)) only [go_sem,d2,q10,hln,hrem,hg2,hm2,rv_name,b12,l32,l98,hdr,List.append_nil,q1,q8,q11];(repeat with_reducible refine aI ?_))
     exact ⟨hW1'.set (by have:=hW1'.lt b12;omega) _,h01.set hT (Nat.le_refl _) _,by rw [hfr,← hnm]⟩
    ·have d2:decide (((ls[i].frm.toNat:Nat):Int)<250)=false:=decide_eq_false (by omega)
     have hfr:fromN vs ls[i].frm=rgH 98:=by rw [fromN,if_neg h250]
     (refine dd5 @d2 @q1 @q8 @q10 @q11 ?_)
     rw [hfr];exact b12
   ·rintro f' T' ⟨f1,f8,f10,f11,f12,hW',hs',b'⟩
    have hx:=hok _ (List.getElem_mem hlt)
    generalize hfv:fromN vs ls[i].frm=fv at *
    have lfv:=fv.2
    have lnm:=ls[i].name.2
    have hrT':=hrT.sub hs'
    (refine dd0 ?_)
    refine ddraw_any (fun S'=>S'.ob T.next=some (.box 39 (fv.1.map bD))) 14 (by exact di1 @b') (by kernel_rfl) ?_
    (have F:=pk10 @f1 @f8 @f11 @f12 @hget @hlt @sp_name @sp_lens @lfv @lnm;refine stq F 0 ?_;refine stq F 1 ?_;refine stq F 2 ?_;refine stq F 3 ?_;refine stq F 4 ?_;refine stq F 5 ?_;refine stq F 6 ?_;refine stq F 7 ?_;refine stq F 8 ?_;refine stq F 9 ?_;refine stq F 10 ?_;refine stq F 11 ?_;clear F)
    (refine s_one 12 ?_;(refine dd0 ?_))
    refine DCalls.mono (DCalls.wf (add_d hrT' ovs (by omega) ls[i].name fv ls[i].lens hx.2 hx.1)) ?_
    rintro d T2 ⟨⟨rfl,F2,hr2,hF2,hfr2⟩,hT2⟩
    have hTn:=hs'.next
    have b2':=hfr2.ob _ _ (fun h=>by have:=hrT.lt _ h;omega) b'
    refine ⟨b2',?_⟩
    (have F:=trivial;refine stq F 13 ?_;clear F)
    (refine s_done (by kernel_rfl) ?_;(refine dd0 ?_))
    have hae:=refAddR_eq ovs.wf ls[i].name fv ls[i].lens
    have hst:stepR vs ls[i]=addR vs ls[i].name fv ls[i].lens (tgS ls[i].lens):=by rw [stepR,hfv]
    rw [hst] at e1
    refine ddraw_mk 18 (by kernel_rfl) ?_
    (refine dd12 @f1 @f8 @f10 @f11 @f12 @b2' @hget @hlt @sp_name @sp_lens @lfv @lnm ?_)
    refine dqgo_mk (refAdd_d .no (rvs vs) ls[i].name fv ls[i].lens (by rw [rvs_len];omega) hx.2 hx.1 (rvs_sch ovs)) ?_
    rw [hae]
    (refine dd2 @f8 @f11 ?_)
    refine DCalls.of_pure (codeO _) ?_
    (refine dd4 @f8 @f11 @w1 @bne_self_eq_false.{0} ?_)
    have hsT2:S.Sub T2:=⟨by have:=hsT.next;have:=hfr2.next;omega,fun j o e=>hfr2.ob _ _ (fun h=>by have:=hF _ h;have:=hS.lt e;omega) (hs'.ob _ _ (hsT.ob _ _ e))⟩
    refine ⟨hlt,T2.ob,fun _ _ h=>h,by omega,by exact di1 @w1,?_,hsT2,by have:=hfr2.next;show S1.next≤T2.next;omega,F2,?_,fun x h=>?_⟩
    ·rw [e1]
     exact di0
    ·rw [e1];exact hr2
    ·rcases hF2 x h with h | h
     ·exact hF x h
     ·omega
  ·have d1:decide ((i:Int)<(ls.length:Int))=false:=decide_eq_false (by omega)
   have hi:i=ls.length:=by omega
   subst hi
   (refine dd5 @q1 @q11 @q10 @q8 @d1 ?_)
   unfold MadeK
   rw [if_pos hR]
   exact ⟨k,F,rfl,hrT,fun x h=>by have:=hF x h;omega,hsT⟩
 ·rw [if_neg hR] at hd
  subst hd
  rw [decide_eq_false hR] at e20
  have z1:((1:Int) == 1)=true:=by decide
  have np:∀ {x y:Operand},dbin Tryz.prog .eql 30 x y (.v (.pointer none)) (.v (.pointer none))=some (True,.v (.bool true)):=fun {x y}=>by kernel_rfl
  (refine dd1 @c2 ?_)
  refine DCalls.of_pure (right20_d s hs (by omega)) ?_
  rw [e20]
  (refine dd1 @np ?_)
  refine DCalls.of_pure (code0_er 1) ?_
  (refine dd1 @z1 ?_)
  unfold MadeK
  rw [if_neg hR]
  exact ⟨rfl,hs1.trans hs0⟩
end
end Go.Proofs.YtogbklnkpjjkoaaGreatDoor
namespace Go.Proofs.YtogbklnkpjjkoaaGreatDoor
open Go.RowKit
theorem DCalls.finP {P:Program} {g:FuncId} {args:List D} {S:St} {K:D→St→Prop} (h:DCalls P g args S fun d T=>DFinT P S T d K):DCalls P g args S K:=fun base η w vs hM hr=>by
 rcases h base η w vs hM hr with ⟨h1,h2⟩ | ⟨d,S',η',v,w',h1,⟨S1,d1,t1,d',S'',q1,q2,q3,q4,q5,q6⟩,h3,h4⟩
 ·refine .inl ⟨h1,h2.mono fun e w' ⟨d,S',η',v,⟨S1,d1,t1,d',S'',q1,q2,q3,q4,q5,q6⟩,he,h3,h4⟩=>?_⟩
  obtain ⟨η3,t2,t3⟩:=t1 _ _ _ _ h4.mem h3
  obtain ⟨g1,g2⟩:=goes_fin hM (h4.trans t2) q3 q4 q5
  exact ⟨d',S'',_,v,q6,he,g2 d' v q2 (q1 _ _ _ _ _ t3),g1⟩
 ·obtain ⟨η3,t2,t3⟩:=t1 _ _ _ _ h4.mem h3
  obtain ⟨g1,g2⟩:=goes_fin hM (h4.trans t2) q3 q4 q5
  exact .inr ⟨d',S'',_,v,w',h1,q6,g2 d' v q2 (q1 _ _ _ _ _ t3),g1⟩
theorem DCalls.at {P:Program} {g:FuncId} {args:List D} {S:St} {d:D} (hc:d.closed) (h:DCalls P g args S fun d' T=>d'.frz=d∧S.Sub T):DAt P g args S d:=fun base η w vs hM hr =>
 DCalls.finP (h.mono fun d' T ⟨h1,h2⟩=>DFin.t ⟨d,S,h1 ▸ DLe.frz _,D.all_mono (fun _ h=>h.elim) hc,h2.next,Nat.le_refl _,fun k o hk=>⟨h2.ob k o hk,(show S.WF from hM.fresh).lt hk,fun _ _ _=>.inl hk⟩,rfl,rfl⟩) base η w vs hM hr
theorem DAt.st {P:Program} {g:FuncId} {args:List D} {S:St} {d:D} (h:∀ T,S.Sub T→DAt P g args T d):DSt P g args S d:=fun T hn ho=>h T ⟨hn,ho⟩
theorem frz_slH (own:Own) (l:List H32):(D.sl own (l.map encH)).frz=.sl .no (l.map encH):=by
 rw [D.frz,frzL_map,List.map_map]
 congr 1
 exact List.map_congr_left fun p _=>frz_encH p
theorem frz_Ns (own:Own) (l:List Nat):(D.sl own (l.map nD)).frz=.sl .no (l.map nD):=by
 rw [D.frz,frzL_map,List.map_map]
 rfl
theorem closed_Ns (l:List Nat):(D.sl .no (l.map nD)).closed:=by
 simp only [D.closed,D.all,Own.all,true_and]
 exact allL_iff.2 fun d hd=>by obtain ⟨v,_,rfl⟩:=List.mem_map.1 hd;simp [nD,iD,D.all]
theorem bDs_closed (l:List UInt8):allL (fun _=>False) (l.map bD):=allL_iff.2 fun d hd=>by obtain ⟨b,_,rfl⟩:=List.mem_map.1 hd;simp [bD,D.all]
theorem bDs_frz (v:H32):frzL (v.1.map bD)=v.1.map bD:=by have:=frz_encH v;simp only [encH,D.frz] at this;injection this
theorem frz_edD (vs:List DVer) (p:Nat × Nat):(edD vs p).frz=edD vs p:=by
 simp only [edD,edCs,D.frz,frzL_app,bDs_frz]
 rfl
theorem closed_edD (vs:List DVer) (p:Nat × Nat):(edD vs p).closed:=by
 simp only [edD,edCs,D.closed,D.all]
 refine allL_iff.2 fun d hd=>?_
 rcases List.mem_append.1 hd with hd | hd
 ·exact allL_iff.1 (bDs_closed _) d hd
 rcases List.mem_append.1 hd with hd | hd
 ·exact allL_iff.1 (bDs_closed _) d hd
 ·obtain rfl:=List.mem_singleton.1 hd;simp [D.all]
theorem frz_Eds (own:Own) (vs:List DVer) (l:List (Nat × Nat)):(D.sl own (l.map (edD vs))).frz=.sl .no (l.map (edD vs)):=by
 rw [D.frz,frzL_map,List.map_map]
 congr 1
 exact List.map_congr_left fun p _=>frz_edD vs p
theorem closed_Eds (vs:List DVer) (l:List (Nat × Nat)):(D.sl .no (l.map (edD vs))).closed:=by
 simp only [D.closed,D.all,Own.all,true_and]
 exact allL_iff.2 fun d hd=>by obtain ⟨v,_,rfl⟩:=List.mem_map.1 hd;exact closed_edD vs v
theorem path_dt {S:St} {k:Nat} {F:Nat→Prop} {vs:List DVer} (hr:RegAt k F vs S) (hl:vs.length≤1000000) {h1 h2:H32} {a b:Nat} (ha:findR vs h1=some a) (hb:findR vs h2=some b) (m:Nat) (f:Nat→Nat) (hm:m≤1000000) (f0:f 0=a) (fm:f m=b) (hf:∀ i,i<m→f i ≠ b∧f i<vs.length∧(befN vs.length (outW vs b)).getD (f i) 0=f (i+1)) :
  DAt Tryz.prog 12 [.loc k 0,encH h1,encH h2] S (.tup [.sl .no ((pthN vs f m).map encH),.v (.bool true)]) :=
 DCalls.at ⟨closed_Hs _,trivial,trivial⟩ ((path_at hr hl ha hb m f hm f0 fm hf).mono fun d T ⟨own,hd,hs⟩=>⟨by rw [hd];simp only [D.frz,frzL,frz_Hs],hs⟩)
theorem out_dt {S:St} {k:Nat} {F:Nat→Prop} {vs:List DVer} (hr:RegAt k F vs S) (hl:vs.length≤1000000) {h:H32} {a:Nat} (ha:findR vs h=some a) :
  DAt Tryz.prog 15 [.loc k 0,encH h] S (.sl .no ((outW vs a).map (edD vs))) :=
 DCalls.at (closed_Eds _ _) ((out_at hr hl ha).mono fun d T ⟨⟨own,hd⟩,hs⟩=>⟨by rw [hd,frz_Eds],hs⟩)
end Go.Proofs.YtogbklnkpjjkoaaGreatDoor
namespace Go.Proofs.YtogbklnkpjjkoaaGreatDoor
def upN (vs:List DVer) (i:Nat):Nat:=(upOf vs i).toNat
def wayT (vs:List DVer) (a b:Nat):List Nat :=
 if a=b then [a] else if b<a then (if upN vs a<a then a::wayT vs (upN vs a) b else [a]) else (if upN vs b<b then wayT vs a (upN vs b)++[b] else [b])
termination_by a+b
theorem upN_lt {vs:List DVer} (hw:WfR vs) {i:Nat} (h:i<vs.length) (h0:0<i):upN vs i<i∧upOf vs i=(upN vs i:Int):=by
 have:=(hw.up i h).2 h0
 unfold upN
 omega
theorem adj_comm (vs:List DVer) (i k:Nat):adjB vs i k=adjB vs k i:=by unfold adjB;rw [Bool.or_comm]
theorem adj_cases {vs:List DVer} (hw:WfR vs) {i k:Nat} (hi:i<vs.length) (hk:k<vs.length) (h:adjB vs i k=true):(k<i∧upN vs i=k)∨(i<k∧upN vs k=i):=by
 simp only [adjB,Bool.or_eq_true,decide_eq_true_eq] at h
 rcases h with h | h
 ·have h0:0<i:=by
   rcases Nat.eq_zero_or_pos i with e | e
   ·have:=(hw.up i hi).1 e;omega
   ·exact e
  have:=upN_lt hw hi h0
  omega
 ·have h0:0<k:=by
   rcases Nat.eq_zero_or_pos k with e | e
   ·have:=(hw.up k hk).1 e;omega
   ·exact e
  have:=upN_lt hw hk h0
  omega
theorem adj_up {vs:List DVer} (hw:WfR vs) {i:Nat} (h:i<vs.length) (h0:0<i):adjB vs i (upN vs i)=true:=by
 simp only [adjB,Bool.or_eq_true,decide_eq_true_eq]
 exact .inl (upN_lt hw h h0).2
def ChT (vs:List DVer) (l:List Nat):Prop:=∀ i (h:i+1<l.length),adjB vs l[i] l[i+1]=true
structure WayP (vs:List DVer) (a b:Nat) (l:List Nat):Prop where
 nd:l.Nodup
 ch:ChT vs l
 lt:∀ x∈l,x<vs.length
 hd:l.head? = some a
 la:l.getLast? = some b
theorem WayP.rev {vs:List DVer} {a b:Nat} {l:List Nat} (h:WayP vs a b l):WayP vs b a l.reverse:=by
 refine ⟨?_,fun i hi=>?_,fun x hx=>h.lt x (List.mem_reverse.1 hx),by rw [List.head?_reverse];exact h.la,by rw [List.getLast?_reverse];exact h.hd⟩
 ·unfold List.Nodup
  rw [List.pairwise_reverse]
  exact h.nd.imp fun h=>fun e=>h e.symm
 ·rw [List.length_reverse] at hi
  simp only [List.getElem_reverse]
  rw [adj_comm]
  have:=h.ch (l.length - 1 - (i+1)) (by omega)
  simpa only [show l.length - 1 - (i+1)+1=l.length - 1 - i by omega] using this
theorem WayP.tail {vs:List DVer} {a b y:Nat} {l:List Nat} (h:WayP vs a b (a::y::l)):WayP vs y b (y::l):=by
 refine ⟨(List.nodup_cons.1 h.nd).2,fun i hi=>?_,fun x hx=>h.lt x (List.mem_cons_of_mem _ hx),rfl,by have:=h.la;rwa [List.getLast?_cons_cons] at this⟩
 have:=h.ch (i+1) (by simpa using hi)
 simpa using this
theorem way_down {vs:List DVer} (hw:WfR vs):∀ (l:List Nat) (x y:Nat),ChT vs (x::y::l)→(x::y::l).Nodup→(∀ z∈x::y::l,z<vs.length)→x<y→∀ z∈y::l,x<z
 | [],x,y,_,_,_,h,z,hz=>by obtain rfl:=List.mem_singleton.1 hz;exact h
 | w::l,x,y,hc,hn,hl,h,z,hz=>by
  have h0:=hc 0 (by simp)
  have h1:=hc 1 (by simp)
  simp only [List.getElem_cons_zero,List.getElem_cons_succ] at h0 h1
  have hx:=hl x (by simp)
  have hy:=hl y (by simp)
  have hw':=hl w (by simp)
  rcases List.mem_cons.1 hz with rfl | hz
  ·exact h
  ·have hxw:x ≠ w:=fun e=>by
    subst e
    simp at hn
   have hyw:y<w:=by
    rcases adj_cases hw hx hy h0 with e | e <;> rcases adj_cases hw hy hw' h1 with e' | e' <;> omega
   have:=way_down hw l y w (fun i hi=>by have:=hc (i+1) (by simpa using hi);simpa using this) (List.nodup_cons.1 hn).2 (fun z hz=>hl z (List.mem_cons_of_mem _ hz)) hyw z hz
   omega
theorem way_step {vs:List DVer} (hw:WfR vs) {a b:Nat} {l:List Nat} (h:WayP vs a b l) (hab:b<a):∃ t,l=a::t∧WayP vs (upN vs a) b t:=by
 match l,h with
 | [],h=>have:=h.hd;simp at this
 | [x],h =>
  have h1:=h.hd
  have h2:=h.la
  simp at h1 h2
  omega
 | x::y::l,h =>
  have h1:=h.hd
  simp at h1
  subst h1
  have h0:=h.ch 0 (by simp)
  simp only [List.getElem_cons_zero,List.getElem_cons_succ] at h0
  have ht:=h.tail
  rcases adj_cases hw (h.lt x (by simp)) (h.lt y (by simp)) h0 with e | e
  ·exact ⟨_,rfl,by rw [e.2];exact ht⟩
  ·have:=way_down hw l x y h.ch h.nd h.lt e.1 b (List.mem_of_getLast? ht.la)
   omega
theorem way_uniq {vs:List DVer} (hw:WfR vs):∀ (n a b:Nat),a+b≤n→a<vs.length→b<vs.length→∀ l,WayP vs a b l→l=wayT vs a b:=fun n=>by
 induction n with
 | zero =>
  intro a b hn ha hb l h
  obtain rfl:a=0:=by omega
  obtain rfl:b=0:=by omega
  rw [wayT,if_pos rfl]
  match l,h with
  | [],h=>have:=h.hd;simp at this
  | [x],h=>have:=h.hd;simp at this;rw [this]
  | x::y::l,h =>
   have h1:=h.hd
   simp at h1
   subst h1
   have:=List.mem_of_getLast? h.tail.la
   exact absurd this (List.nodup_cons.1 h.nd).1
 | succ n ih =>
  intro a b hn ha hb l h
  by_cases hab:a=b
  ·subst hab
   rw [wayT,if_pos rfl]
   match l,h with
   | [],h=>have:=h.hd;simp at this
   | [x],h=>have:=h.hd;simp at this;rw [this]
   | x::y::l,h =>
    have h1:=h.hd
    simp at h1
    subst h1
    have:=List.mem_of_getLast? h.tail.la
    exact absurd this (List.nodup_cons.1 h.nd).1
  ·rcases Nat.lt_or_ge b a with hlt | hge
   ·obtain ⟨t,rfl,ht⟩:=way_step hw h hlt
    have hu:=upN_lt hw ha (by omega)
    rw [wayT,if_neg hab,if_pos hlt,if_pos hu.1,ih _ _ (by omega) (by omega) hb t ht]
   ·obtain ⟨t,hl,ht⟩:=way_step hw h.rev (show a<b by omega)
    have hu:=upN_lt hw hb (by omega)
    have:=ih _ _ (by omega) ha (by omega) t.reverse ht.rev
    rw [wayT,if_neg hab,if_neg (by omega),if_pos hu.1,← this,← List.reverse_reverse l,hl,List.reverse_cons]
/-! What the walk tells leads along. -/
inductive GoodE (vs:List DVer) (start:Nat):List (Nat × Nat)→Prop
 | nil:GoodE vs start []
 | snoc {e:List (Nat × Nat)} {a b:Nat}:GoodE vs start e→a∈start::e.map (·.2)→b ∉ start::e.map (·.2)→b<vs.length→adjB vs a b=true→GoodE vs start (e++[(a,b)])
def BfI (vs:List DVer) (start:Nat) (s:Bf):Prop:=s.1=start::s.2.map (·.2)∧GoodE vs start s.2
theorem bfI_fold {vs:List DVer} {start a:Nat}:∀ (l:List Nat) (s:Bf),(∀ k∈l,k<vs.length∧adjB vs a k=true)→a∈s.1→BfI vs start s→BfI vs start (l.foldl (bfOne a) s)
 | [],s,_,_,h=>h
 | k::l,s,hl,ha,h=>by
  rw [List.foldl_cons]
  obtain ⟨h1,h2⟩:=hl k (by simp)
  have hm:a∈(bfOne a s k).1:=by
   unfold bfOne
   split
   ·exact ha
   ·exact List.mem_append.2 (.inl ha)
  refine bfI_fold l _ (fun k hk=>hl k (List.mem_cons_of_mem _ hk)) hm ?_
  unfold bfOne
  split
  ·exact h
  ·rename_i hk
   refine ⟨?_,.snoc h.2 (by rw [← h.1];exact ha) (by rw [← h.1];exact hk) h1 h2⟩
   simp only [h.1,List.map_append,List.cons_append]
   rfl
theorem bes_adj {vs:List DVer} {a k:Nat} (h:k∈besL vs a):adjB vs a k=true:=(List.mem_filter.1 h).2
theorem bfs_I (vs:List DVer) (start:Nat):∀ p,BfI vs start (bfs vs start p)
 | 0=>⟨rfl,.nil⟩
 | p+1=>by
  have ih:=bfs_I vs start p
  rw [bfs]
  split
  ·rename_i a ha
   exact bfI_fold _ _ (fun k hk=>⟨besL_lt hk,bes_adj hk⟩) (List.mem_of_getElem? ha) ih
  ·exact ih
theorem outW_I (vs:List DVer) (start:Nat):(bfs vs start vs.length).1=start::(outW vs start).map (·.2)∧GoodE vs start (outW vs start):=bfs_I vs start vs.length
theorem bfFold_pre {a:Nat}:∀ (l:List Nat) (s:Bf),s.1 <+: (l.foldl (bfOne a) s).1∧∀ k∈l,k∈(l.foldl (bfOne a) s).1
 | [],s=>⟨List.prefix_rfl,fun k h=>by simp at h⟩
 | k::l,s=>by
  rw [List.foldl_cons]
  obtain ⟨h1,h2⟩:=bfFold_pre l (bfOne a s k) (a:=a)
  have h3:s.1 <+: (bfOne a s k).1∧k∈(bfOne a s k).1:=by
   unfold bfOne
   split
   ·rename_i h;exact ⟨List.prefix_rfl,h⟩
   ·exact ⟨List.prefix_append _ _,by simp⟩
  refine ⟨h3.1.trans h1,fun j hj=>?_⟩
  rcases List.mem_cons.1 hj with rfl | hj
  ·exact h1.subset h3.2
  ·exact h2 j hj
theorem bfs_pre (vs : List DVer) (start : Nat) {p q : Nat} (h : p ≤ q) : (bfs vs start p).1 <+: (bfs vs start q).1 := by
  induction q with
  | zero => obtain rfl : p = 0 := by omega
            exact List.prefix_rfl
  | succ q ih =>
    by_cases e : p = q + 1
    · rw [e]; exact List.prefix_rfl
    · refine (ih (by omega)).trans ?_
      rw [bfs]
      split
      · exact (bfFold_pre _ _).1
      · exact List.prefix_rfl
theorem bfs_closed {vs:List DVer} {start:Nat} (hs:start<vs.length) {a k:Nat} (ha:a∈(bfs vs start vs.length).1) (hk:k∈besL vs a):k∈(bfs vs start vs.length).1:=by
 obtain ⟨p,hp,rfl⟩:=List.getElem_of_mem ha
 have hp':p<bfR vs start:=hp
 have hg:=bfR_go hs hp'
 have hle:=bfR_le hs
 have e:=(bfs_pre vs start (p:=p) (q:=vs.length) (by omega)).getElem hg
 rw [← e] at hk
 refine (bfs_pre vs start (p:=p+1) (q:=vs.length) (by omega)).subset ?_
 rw [bfs_at hg]
 exact (bfFold_pre _ _).2 k hk
theorem mem_bes {vs:List DVer} {a k:Nat} (hk:k<vs.length) (h:adjB vs a k=true):k∈besL vs a:=List.mem_filter.2 ⟨List.mem_range.2 hk,h⟩
theorem bfs_all {vs : List DVer} (hw : WfR vs) {start : Nat} (hs : start < vs.length) : ∀ x, x < vs.length → x ∈ (bfs vs start vs.length).1 := by
  have h0 : ∀ n x, x ≤ n → x < vs.length → x ∈ (bfs vs start vs.length).1 → 0 ∈ (bfs vs start vs.length).1 := fun n => by
    induction n with
    | zero => intro x hx _ h; obtain rfl : x = 0 := by omega
              exact h
    | succ n ih =>
      intro x hx hl h
      rcases Nat.eq_zero_or_pos x with e | e
      · subst e; exact h
      · have hu := upN_lt hw hl e
        exact ih (upN vs x) (by omega) (by omega) (bfs_closed hs h (mem_bes (by omega) (adj_up hw hl e)))
  have hz := h0 start start (Nat.le_refl _) hs (by rw [(outW_I vs start).1]; simp)
  have h1 : ∀ n x, x ≤ n → x < vs.length → x ∈ (bfs vs start vs.length).1 := fun n => by
    induction n with
    | zero => intro x hx _; obtain rfl : x = 0 := by omega
              exact hz
    | succ n ih =>
      intro x hx hl
      rcases Nat.eq_zero_or_pos x with e | e
      · subst e; exact hz
      · have hu := upN_lt hw hl e
        exact bfs_closed hs (ih (upN vs x) (by omega) (by omega)) (mem_bes hl (by rw [adj_comm]; exact adj_up hw hl e))
  exact fun x h => h1 x x (Nat.le_refl _) h
theorem len_ge:∀ (n:Nat) (l:List Nat),(∀ x,x<n→x∈l)→n≤l.length
 | 0,_,_=>Nat.zero_le _
 | n+1,l,h=>by
  have h1:=h n (by omega)
  have e:(l.erase n).length=l.length - 1:=List.length_erase_of_mem h1
  have:=len_ge n (l.erase n) fun x hx=>(List.mem_erase_of_ne (by omega)).2 (h x (by omega))
  have:=List.length_pos_of_mem h1
  omega
theorem outW_len {vs:List DVer} (hw:WfR vs) {start:Nat} (hs:start<vs.length):(outW vs start).length+1=vs.length:=by
 have h1:=bfs_len vs hs vs.length
 have h2:=len_ge vs.length _ (bfs_all hw hs)
 have h3:=bfs_len2 vs start vs.length
 unfold outW
 omega
theorem good_path {vs:List DVer} {start:Nat} {e:List (Nat × Nat)} (hs:start<vs.length) (h:GoodE vs start e):∀ x∈start::e.map (·.2),∃ l:List Nat,l.Nodup∧(∀ y∈l,y∈start::e.map (·.2)∧y<vs.length)∧l.head? = some x∧l.getLast? = some start∧∀ i (h:i+1<l.length),(befN vs.length e).getD l[i] 0=l[i+1]∧adjB vs l[i] l[i+1]=true:=by
 induction h with
 | nil =>
  intro x hx
  obtain rfl:=List.mem_singleton.1 hx
  exact ⟨[x],by simp,fun y hy=>⟨hy,by obtain rfl:=List.mem_singleton.1 hy;exact hs⟩,rfl,rfl,fun i h=>by simp at h⟩
 | @snoc e a b hg ha hb hbl hab ih =>
  have hmem:∀ y,y∈start::(e++[(a,b)]).map (·.2)↔y∈start::e.map (·.2)∨y=b:=fun y=>by
   simp only [List.map_append,List.map_cons,List.map_nil,List.mem_cons,List.mem_append,List.not_mem_nil,or_false,or_assoc]
  have hold:∀ y,y∈start::e.map (·.2)→(befN vs.length (e++[(a,b)])).getD y 0=(befN vs.length e).getD y 0:=fun y hy=>by
   rw [befN_snoc]
   have:b ≠ y:=fun e=>hb (e ▸ hy)
   simp [List.getD,List.getElem?_set,this]
  intro x hx
  rcases (hmem x).1 hx with hx | rfl
  ·obtain ⟨l,h1,h2,h3,h4,h5⟩:=ih x hx
   refine ⟨l,h1,fun y hy=>⟨(hmem y).2 (.inl (h2 y hy).1),(h2 y hy).2⟩,h3,h4,fun i h=>?_⟩
   rw [hold _ (h2 _ (List.getElem_mem _)).1]
   exact h5 i h
  ·obtain ⟨l,h1,h2,h3,h4,h5⟩:=ih a ha
   refine ⟨x::l,List.nodup_cons.2 ⟨fun h=>hb (h2 x h).1,h1⟩,fun y hy=>?_,rfl,?_,fun i h=>?_⟩
   ·rcases List.mem_cons.1 hy with rfl | hy
    ·exact ⟨(hmem y).2 (.inr rfl),hbl⟩
    ·exact ⟨(hmem y).2 (.inl (h2 y hy).1),(h2 y hy).2⟩
   ·match l,h3 with
    | z::l,_=>rw [List.getLast?_cons_cons];exact h4
   ·match i,h with
    | 0,h =>
     match l,h3 with
     | z::l,h3 =>
      simp at h3
      subst h3
      simp only [List.getElem_cons_zero,List.getElem_cons_succ]
      refine ⟨?_,by rw [adj_comm];exact hab⟩
      rw [befN_snoc]
      simp [List.getD,List.getElem?_set,befN_len,hbl]
    | i+1,h =>
     simp only [List.getElem_cons_succ]
     rw [hold _ (h2 _ (List.getElem_mem _)).1]
     exact h5 i (by simpa using h)
theorem way_P {vs:List DVer} (hw:WfR vs) {a b:Nat} (ha:a<vs.length) (hb:b<vs.length):WayP vs a b (wayT vs a b)∧∀ i (h:i+1<(wayT vs a b).length),(befN vs.length (outW vs b)).getD (wayT vs a b)[i] 0=(wayT vs a b)[i+1]:=by
 obtain ⟨hi,hg⟩:=outW_I vs b
 obtain ⟨l,h1,h2,h3,h4,h5⟩:=good_path hb hg a (by rw [← hi];exact bfs_all hw hb a ha)
 have hP:WayP vs a b l:=⟨h1,fun i h=>(h5 i h).2,fun x hx=>(h2 x hx).2,h3,h4⟩
 have:=way_uniq hw _ a b (Nat.le_refl _) ha hb l hP
 subst this
 exact ⟨hP,fun i h=>(h5 i h).1⟩
def wayF (vs:List DVer) (a b i:Nat):Nat:=(wayT vs a b).getD i 0
theorem way_pos {vs:List DVer} (hw:WfR vs) {a b:Nat} (ha:a<vs.length) (hb:b<vs.length):0<(wayT vs a b).length:=by
 have:=(way_P hw ha hb).1.hd
 cases h:wayT vs a b with
 | nil=>rw [h] at this;simp at this
 | cons x l=>simp
theorem way_len {vs:List DVer} (hw:WfR vs) {a b:Nat} (ha:a<vs.length) (hb:b<vs.length):(wayT vs a b).length≤vs.length:=nodup_len (way_P hw ha hb).1.nd (way_P hw ha hb).1.lt
theorem wayF_at {vs:List DVer} (hw:WfR vs) {a b:Nat} (ha:a<vs.length) (hb:b<vs.length):wayF vs a b 0=a∧wayF vs a b ((wayT vs a b).length - 1)=b∧∀ i,i<(wayT vs a b).length - 1→wayF vs a b i ≠ b∧wayF vs a b i<vs.length∧(befN vs.length (outW vs b)).getD (wayF vs a b i) 0=wayF vs a b (i+1):=by
 obtain ⟨h,hb2⟩:=way_P hw ha hb
 have hp:=way_pos hw ha hb
 have hl:wayF vs a b ((wayT vs a b).length - 1)=b:=by
  have:=h.la
  rw [List.getLast?_eq_getElem?] at this
  simp [wayF,List.getD,this]
 refine ⟨?_,hl,fun i hi=>?_⟩
 ·have:=h.hd
  rw [List.head?_eq_getElem?] at this
  simp [wayF,List.getD,this]
 ·have e1:wayF vs a b i=(wayT vs a b)[i]:=by simp [wayF,List.getD,List.getElem?_eq_getElem (show i<(wayT vs a b).length by omega)]
  have e2:wayF vs a b (i+1)=(wayT vs a b)[i+1]:=by simp [wayF,List.getD,List.getElem?_eq_getElem (show i+1<(wayT vs a b).length by omega)]
  have e3:wayF vs a b ((wayT vs a b).length - 1)=(wayT vs a b)[(wayT vs a b).length - 1]:=by simp [wayF,List.getD,List.getElem?_eq_getElem (show (wayT vs a b).length - 1<(wayT vs a b).length by omega)]
  refine ⟨fun e=>?_,by rw [e1];exact h.lt _ (List.getElem_mem _),by rw [e1,e2];exact hb2 i (by omega)⟩
  have e:=e.trans hl.symm
  rw [e1,e3] at e
  have:=List.pairwise_iff_getElem.1 h.nd i ((wayT vs a b).length - 1) (by omega) (by omega) (by omega)
  exact this e
theorem pthN_way {vs:List DVer} (hw:WfR vs) {a b:Nat} (ha:a<vs.length) (hb:b<vs.length):pthN vs (wayF vs a b) ((wayT vs a b).length - 1)=(wayT vs a b).map (nmAt vs):=by
 have hp:=way_pos hw ha hb
 unfold pthN
 rw [show (wayT vs a b).length - 1+1=(wayT vs a b).length by omega]
 refine List.ext_getElem (by simp) fun i h1 h2=>?_
 simp only [List.length_map,List.length_range] at h1
 simp [wayF,List.getD,h1]
/-! A version, of what it was made, and so on. -/
def upL (vs:List DVer) (i:Nat):List Nat:=i::(if upN vs i<i then upL vs (upN vs i) else [])
termination_by i
theorem upL_zero (vs:List DVer):upL vs 0=[0]:=by rw [upL,if_neg (by omega)]
theorem upL_pos {vs:List DVer} (hw:WfR vs) {i:Nat} (h:i<vs.length) (h0:0<i):upL vs i=i::upL vs (upN vs i):=by
 rw [upL,if_pos (upN_lt hw h h0).1]
theorem upL_ne (vs:List DVer) (i:Nat):0<(upL vs i).length:=by rw [upL];simp
theorem upL_le (vs : List DVer) : ∀ n i, i ≤ n → ∀ x ∈ upL vs i, x ≤ i := fun n => by
  induction n with
  | zero => intro i hi x hx; obtain rfl : i = 0 := by omega
            rw [upL_zero] at hx; simp at hx; omega
  | succ n ih =>
    intro i hi x hx
    rw [upL] at hx
    rcases List.mem_cons.1 hx with rfl | hx
    · exact Nat.le_refl _
    · split at hx
      · have := ih _ (by omega) x hx; omega
      · simp at hx
theorem upL_len {vs : List DVer} : ∀ n i, i ≤ n → (upL vs i).length ≤ i + 1 := fun n => by
  induction n with
  | zero => intro i hi; obtain rfl : i = 0 := by omega
            rw [upL_zero]; simp
  | succ n ih =>
    intro i hi
    rw [upL]
    split
    · have := ih (upN vs i) (by omega); simp only [List.length_cons]; omega
    · simp
theorem upL_step {vs:List DVer} (hw:WfR vs):∀ n i,i≤n→i<vs.length→∀ j (h:j+1<(upL vs i).length),0<(upL vs i)[j]∧(upL vs i)[j]<vs.length∧upOf vs (upL vs i)[j]=((upL vs i)[j+1]:Int):=fun n=>by
 induction n with
 | zero =>
  intro i hi hl j h
  obtain rfl:i=0:=by omega
  simp [upL_zero] at h
 | succ n ih =>
  intro i hi hl j h
  rcases Nat.eq_zero_or_pos i with e | e
  ·subst e;simp [upL_zero] at h
  ·have hu:=upN_lt hw hl e
   have he:=upL_pos hw hl e
   simp only [he] at h ⊢
   match j,h with
   | 0,h =>
    simp only [List.getElem_cons_zero,List.getElem_cons_succ]
    refine ⟨e,hl,?_⟩
    have:(upL vs (upN vs i))[0]'(upL_ne _ _)=upN vs i:=by
     have h3:(upL vs (upN vs i))[0]? = some (upN vs i):=by rw [upL];rfl
     rw [List.getElem?_eq_getElem (upL_ne _ _)] at h3
     exact Option.some.inj h3
    rw [hu.2,this]
   | j+1,h =>
    simp only [List.getElem_cons_succ]
    exact ih _ (by omega) (by omega) j (by simpa using h)
theorem upL_last {vs : List DVer} (hw : WfR vs) : ∀ n i, i ≤ n → i < vs.length → (upL vs i)[(upL vs i).length - 1]? = some 0 := fun n => by
  induction n with
  | zero => intro i hi hl; obtain rfl : i = 0 := by omega
            rw [upL_zero]; rfl
  | succ n ih =>
    intro i hi hl
    rcases Nat.eq_zero_or_pos i with e | e
    · subst e; rw [upL_zero]; rfl
    · have hu := upN_lt hw hl e
      rw [upL_pos hw hl e]
      have := ih _ (by omega) (show upN vs i < vs.length by omega)
      have hp := upL_ne vs (upN vs i)
      rw [List.length_cons, show (upL vs (upN vs i)).length + 1 - 1 = ((upL vs (upN vs i)).length - 1) + 1 by omega, List.getElem?_cons_succ]
      exact this
def upF (vs:List DVer) (i j:Nat):Nat:=(upL vs i).getD j 0
theorem upF_zero (vs:List DVer) (i:Nat):upF vs i 0=i:=by unfold upF;rw [upL];rfl
theorem upF_get {vs:List DVer} {i j:Nat} (h:j<(upL vs i).length):upF vs i j=(upL vs i)[j]:=by simp [upF,List.getD,h]
theorem upF_at {vs:List DVer} (hw:WfR vs) {i:Nat} (hi:i<vs.length):(upF vs i ((upL vs i).length - 1)<vs.length∧upF vs i ((upL vs i).length - 1)=0∧upOf vs (upF vs i ((upL vs i).length - 1))<0)∧∀ j,j<(upL vs i).length - 1→0<upF vs i j∧upF vs i j<vs.length∧upOf vs (upF vs i j)=(upF vs i (j+1):Int):=by
 have hl:=upL_last hw i i (Nat.le_refl _) hi
 have e:upF vs i ((upL vs i).length - 1)=0:=by simp [upF,List.getD,hl]
 refine ⟨⟨by omega,e,?_⟩,fun j hj=>?_⟩
 ·rw [e,(hw.up 0 (by omega)).1 rfl];decide
 ·have:=upL_step hw i i (Nat.le_refl _) hi j (by omega)
  rw [upF_get (show j<_ by omega),upF_get (show j+1<_ by omega)]
  exact this
theorem upL_take {vs:List DVer} {i j:Nat} (h:j<(upL vs i).length):(upL vs i).take (j+1)=(upL vs i).take j++[upF vs i j]:=by
 rw [List.take_succ_eq_append_getElem h,upF_get h]
/-! What both have in common is left out. -/
def TrC (ua ub:List Nat) (i:Nat):Prop:=1<ua.length - i∧1<ub.length - i∧ua[ua.length - i - 2]? = ub[ub.length - i - 2]?
structure TrT (ua ub:List Nat) (t:Nat):Prop where
 go:∀ i,i<t→TrC ua ub i
 stop:¬ TrC ua ub t
theorem trT_ex (ua ub:List Nat):∃ t,TrT ua ub t:=by
 have:∀ n,(∀ i,i<n→TrC ua ub i)∨∃ t,TrT ua ub t:=fun n=>by
  induction n with
  | zero=>exact .inl fun i h=>by omega
  | succ n ih =>
   rcases ih with h | h
   ·by_cases hc:TrC ua ub n
    ·exact .inl fun i hi=>by
      by_cases e:i=n
      ·subst e;exact hc
      ·exact h i (by omega)
    ·exact .inr ⟨n,h,hc⟩
   ·exact .inr h
 rcases this (ua.length+1) with h | h
 ·have:=(h ua.length (by omega)).1;omega
 ·exact h
theorem TrT.lt {ua ub:List Nat} {t:Nat} (h:TrT ua ub t) (ha:0<ua.length) (hb:0<ub.length):t<ua.length∧t<ub.length:=by
 rcases Nat.eq_zero_or_pos t with e | e
 ·omega
 ·have:=h.go (t - 1) (by omega)
  unfold TrC at this
  omega
theorem TrC.comm {ua ub:List Nat} {i:Nat}:TrC ua ub i↔TrC ub ua i:=⟨fun h=>⟨h.2.1,h.1,h.2.2.symm⟩,fun h=>⟨h.2.1,h.1,h.2.2.symm⟩⟩
theorem TrT.comm {ua ub:List Nat} {t:Nat} (h:TrT ua ub t):TrT ub ua t:=⟨fun i hi=>TrC.comm.1 (h.go i hi),fun hc=>h.stop (TrC.comm.1 hc)⟩
theorem trC_cons {a:Nat} {ua ub:List Nat} (h:∀ x∈ub,x<a) (i:Nat):TrC (a::ua) ub i↔TrC ua ub i:=by
 unfold TrC
 rw [List.length_cons]
 rcases Nat.lt_or_ge 1 (ua.length - i) with h1 | h1
 ·rw [show ua.length+1 - i - 2=(ua.length - i - 2)+1 by omega,List.getElem?_cons_succ]
  exact ⟨fun h=>⟨h1,h.2⟩,fun h=>⟨by omega,h.2⟩⟩
 ·refine ⟨fun ⟨g1,g2,g3⟩=>?_,fun ⟨g1,_⟩=>by omega⟩
  rw [show ua.length+1 - i - 2=0 by omega,List.getElem?_cons_zero] at g3
  have:=h a (List.mem_of_getElem? g3.symm)
  omega
theorem TrT.cons {a:Nat} {ua ub:List Nat} (h:∀ x∈ub,x<a) {t:Nat} (ht:TrT (a::ua) ub t):TrT ua ub t:=⟨fun i hi=>(trC_cons h i).1 (ht.go i hi),fun hc=>ht.stop ((trC_cons h t).2 hc)⟩
theorem trim_way {vs:List DVer} (hw:WfR vs):∀ n a b t,a+b≤n→a<vs.length→b<vs.length→TrT (upL vs a) (upL vs b) t→(upL vs a).take ((upL vs a).length - t)++((upL vs b).take ((upL vs b).length - t - 1)).reverse=wayT vs a b:=fun n=>by
 have same:∀ a t,TrT (upL vs a) (upL vs a) t→(upL vs a).take ((upL vs a).length - t)++((upL vs a).take ((upL vs a).length - t - 1)).reverse=wayT vs a a:=fun a t h=>by
  have hl:=h.lt (upL_ne _ _) (upL_ne _ _)
  have:¬ (1<(upL vs a).length - t):=fun e=>h.stop ⟨e,e,rfl⟩
  rw [show (upL vs a).length - t=1 by omega,wayT,if_pos rfl,upL]
  rfl
 induction n with
 | zero =>
  intro a b t hn ha hb h
  obtain rfl:a=b:=by omega
  exact same a t h
 | succ n ih =>
  intro a b t hn ha hb h
  by_cases hab:a=b
  ·subst hab;exact same a t h
  ·rcases Nat.lt_or_ge b a with hlt | hge
   ·have hu:=upN_lt hw ha (by omega)
    have he:=upL_pos hw ha (by omega)
    rw [he] at h
    have h2:=h.cons (fun x hx=>by have:=upL_le vs b b (Nat.le_refl _) x hx;omega)
    have hl:=h2.lt (upL_ne _ _) (upL_ne _ _)
    have:=ih _ _ t (by omega) (by omega) hb h2
    rw [wayT,if_neg hab,if_pos hlt,if_pos hu.1,← this,he,List.length_cons,show (upL vs (upN vs a)).length+1 - t=((upL vs (upN vs a)).length - t)+1 by omega,List.take_succ_cons,List.cons_append]
   ·have hu:=upN_lt hw hb (by omega)
    have he:=upL_pos hw hb (by omega)
    rw [he] at h
    have h2:=(h.comm.cons (fun x hx=>by have:=upL_le vs a a (Nat.le_refl _) x hx;omega)).comm
    have hl:=h2.lt (upL_ne _ _) (upL_ne _ _)
    have:=ih _ _ t (by omega) ha (by omega) h2
    rw [wayT,if_neg hab,if_neg (by omega),if_pos hu.1,← this,he,List.length_cons,show (upL vs (upN vs b)).length+1 - t - 1=((upL vs (upN vs b)).length - t - 1)+1 by omega,List.take_succ_cons,List.reverse_cons,List.append_assoc]
/-! The way out, number by number. -/
def bfK (vs:List DVer) (a k:Nat) (s:Bf):Bf:=((List.range k).filter (adjB vs a)).foldl (bfOne a) s
theorem bfK_succ (vs:List DVer) (a k:Nat) (s:Bf):bfK vs a (k+1) s=if adjB vs a k=true then bfOne a (bfK vs a k s) k else bfK vs a k s:=by
 unfold bfK
 rw [List.range_succ,List.filter_append,List.foldl_append]
 by_cases h:adjB vs a k=true
 ·rw [if_pos h];simp [h]
 ·rw [if_neg h];simp [h]
theorem bfK_end (vs:List DVer) (a:Nat) (s:Bf):bfK vs a vs.length s=(besL vs a).foldl (bfOne a) s:=rfl
theorem bfK_ok {vs:List DVer} {a k:Nat} {s:Bf} (hk:k≤vs.length) (h1:s.1.Nodup) (h2:∀ x∈s.1,x<vs.length):(bfK vs a k s).1.Nodup∧∀ x∈(bfK vs a k s).1,x<vs.length :=
 bfFold_ok h1 h2 fun x hx=>by
  have:=(List.mem_filter.1 hx).1
  have:=List.mem_range.1 this
  omega
theorem outW_lt {vs:List DVer} {start:Nat} (hs:start<vs.length):∀ p∈outW vs start,p.1<vs.length∧p.2<vs.length:=by
 have hg:=(outW_I vs start).2
 have:∀ e,GoodE vs start e→∀ p∈e,p.1<vs.length∧p.2<vs.length:=fun e h=>by
  induction h with
  | nil=>intro p hp;simp at hp
  | @snoc e a b _ ha _ hb _ ih =>
   intro p hp
   rcases List.mem_append.1 hp with hp | hp
   ·exact ih p hp
   ·obtain rfl:=List.mem_singleton.1 hp
    refine ⟨?_,hb⟩
    rcases List.mem_cons.1 ha with rfl | ha
    ·exact hs
    ·obtain ⟨q,hq,rfl⟩:=List.mem_map.1 ha
     exact (ih q hq).2
 exact this _ hg
end Go.Proofs.YtogbklnkpjjkoaaGreatDoor
namespace Go.Proofs.YtogbklnkpjjkoaaGreatDoor
open Go.RowKit
theorem stSmall {ls:List DRst} (h:greatSt ls=false) (hok:∀ x∈ls,okL x.lens):ls.length≤14∧∀ x∈ls,okL x.lens∧roomL 8 x.lens=true:=by
 rw [greatSt,Bool.or_eq_false_iff,decide_eq_false_iff_not] at h
 refine ⟨by omega,fun x hx=>⟨hok x hx,?_⟩⟩
 have:=List.any_eq_false.1 h.2 x hx
 simpa [greatL] using this
theorem closed_Sp (v:DRst):(encSp v).closed:=by
 have hL:=closed_encL v.lens
 rw [← agg_encL] at hL
 simp only [D.closed,D.all] at hL
 simp only [encSp,spCs,D.closed,D.all]
 refine allL_iff.2 fun d hd=>?_
 rcases List.mem_cons.1 hd with rfl | hd
 ·simp [bD,D.all]
 rcases List.mem_append.1 hd with hd | hd
 ·exact allL_iff.1 (bDs_closed _) d hd
 ·exact allL_iff.1 hL d hd
theorem closed_Sps (l:List DRst):(D.sl .no (l.map encSp)).closed:=by
 simp only [D.closed,D.all,Own.all,true_and]
 exact allL_iff.2 fun d hd=>by obtain ⟨v,_,rfl⟩:=List.mem_map.1 hd;exact closed_Sp v
theorem cl_args2 (s:DSch) (l:List DRst):allL (fun _=>False) [encS s,.sl .no (l.map encSp)]:=⟨closed_encS s,closed_Sps l,trivial⟩
theorem find_nm {vs:List DVer} (hw:WfR vs) {i:Nat} (h:i<vs.length):findR vs (nmAt vs i)=some i:=by rw [nmAt_lt h];exact findR_at hw.nodup h
theorem rvs_nm {vs:List DVer} {i:Nat} (h:i<vs.length):((rvs vs)[i]'(by rw [rvs_len];exact h)).name=nmAt vs i:=by rw [rvs_get h,nmAt_lt h];rfl
theorem way_dt {S:St} {k:Nat} {F:Nat→Prop} {vs:List DVer} (hr:RegAt k F vs S) (hw:WfR vs) (hl:vs.length≤1000000) {a b:Nat} (ha:a<vs.length) (hb:b<vs.length):DSt Tryz.prog 12 [.loc k 0,encH (nmAt vs a),encH (nmAt vs b)] S (.tup [.sl .no (((wayT vs a b).map (nmAt vs)).map encH),.v (.bool true)]):=DAt.st fun T hs=>by
 obtain ⟨f0,fm,hf⟩:=wayF_at hw ha hb
 have:=path_dt (hr.sub hs) hl (find_nm hw ha) (find_nm hw hb) ((wayT vs a b).length - 1) (wayF vs a b) (by have:=way_len hw ha hb;omega) f0 fm hf
 rwa [pthN_way hw ha hb] at this
theorem out_st {S:St} {k:Nat} {F:Nat→Prop} {vs:List DVer} (hr:RegAt k F vs S) (hw:WfR vs) (hl:vs.length≤1000000) {a:Nat} (ha:a<vs.length):DSt Tryz.prog 15 [.loc k 0,encH (nmAt vs a)] S (.sl .no ((outW vs a).map (edD vs))):=DAt.st fun T hs=>out_dt (hr.sub hs) hl (find_nm hw ha)
theorem DSt.at {P:Program} {g:FuncId} {args:List D} {S:St} {d:D} (h:DSt P g args S d):DAt P g args S d:=h S (Nat.le_refl _) fun _ _ h=>h
theorem onVal_neEr {x y:Operand} {K:D→Prop} {p q:D} (a:DEd) (hp:p=encEd a) (hq:q=encEd a) (k:K (.v (.bool false))):onVal (dbin Tryz.prog .neq 59 x y p q) K:=by
 rw [hp,hq,onVal_neE,decide_eq_true (rfl:a=a)];exact k
theorem ed_len1 (a:H32):64≤(a.1.map bD++[D.v (.int .u8 0),D.v (.int .u8 0),D.v (.int .u8 0),D.v (.int .u8 0),D.v (.int .u8 0),D.v (.int .u8 0),D.v (.int .u8 0),D.v (.int .u8 0),D.v (.int .u8 0),D.v (.int .u8 0),D.v (.int .u8 0),D.v (.int .u8 0),D.v (.int .u8 0),D.v (.int .u8 0),D.v (.int .u8 0),D.v (.int .u8 0),D.v (.int .u8 0),D.v (.int .u8 0),D.v (.int .u8 0),D.v (.int .u8 0),D.v (.int .u8 0),D.v (.int .u8 0),D.v (.int .u8 0),D.v (.int .u8 0),D.v (.int .u8 0),D.v (.int .u8 0),D.v (.int .u8 0),D.v (.int .u8 0),D.v (.int .u8 0),D.v (.int .u8 0),D.v (.int .u8 0),D.v (.int .u8 0),D.v (Value.bool false)]).length:=by
 simp only [List.length_append,len_encH,List.length_cons,List.length_nil];omega
theorem ed_len2 (a b:H32) (x:D):65≤(a.1.map bD++(b.1.map bD++[x])).length:=by
 rw [List.length_append,List.length_append,len_encH,len_encH];exact Nat.le_refl _
theorem edD_ed (vs:List DVer) (p:Nat × Nat):edD vs p=encEd (nmAt vs p.1,nmAt vs p.2,decide (upOf vs p.2=(p.1:Int))):=rfl
theorem rv_frm (v:RVer):D.agg (((encRV v).cells.drop 32).take 32)=encH v.frm:=by
 have h1:=len_encH v.name
 have h2:=len_encH v.frm
 show D.agg (((rvCs v).drop 32).take 32)=_
 rw [rvCs,List.drop_append,List.drop_of_length_le (by omega),h1,List.nil_append,Nat.sub_self,List.drop_zero,List.take_append_of_le_length (by omega),List.take_of_length_le (by omega)]
 rfl
theorem rvs_name {vs:List DVer} {i:Nat} (h:i<vs.length):((rvs vs)[i]'(by rw [rvs_len];exact h)).name=vs[i].name:=by rw [rvs_get h];rfl
theorem rvs_frm {vs:List DVer} (hw:WfR vs) {i:Nat} (h:i<vs.length) (h0:0<i):((rvs vs)[i]'(by rw [rvs_len];exact h)).frm=(vs[upN vs i]'(by have:=upN_lt hw h h0;omega)).name:=by
 have hu:=upN_lt hw h h0
 rw [rvs_get h]
 have e:vs[i].up=(upN vs i:Int):=by rw [← upOf_lt h];exact hu.2
 show (if vs[i].up<0 then zH else nmAt vs vs[i].up.toNat)=_
 rw [if_neg (by omega),e,Int.toNat_natCast,nmAt_lt (by omega)]
theorem ixR_frm {vs:List DVer} (hw:WfR vs) {i:Nat} (h:i<vs.length) (h0:0<i):ixR (rvs vs) ((rvs vs)[i]'(by rw [rvs_len];exact h)).frm=(upN vs i:Int):=by
 have hu:=upN_lt hw h h0
 rw [rvs_frm hw h h0,ixR_find hw.nodup,findR_at hw.nodup (by omega)]
theorem frm_eq {vs:List DVer} (hw:WfR vs) {i k:Nat} (hi:i<vs.length) (hk:k<vs.length) (h0:0<i):decide (((rvs vs)[i]'(by rw [rvs_len];exact hi)).frm=((rvs vs)[k]'(by rw [rvs_len];exact hk)).name)=decide (upOf vs i=(k:Int)):=by
 have hu:=upN_lt hw hi h0
 rw [Bool.eq_iff_iff,decide_eq_true_eq,decide_eq_true_eq,rvs_frm hw hi h0,rvs_name hk]
 refine ⟨fun e=>?_,fun e=>?_⟩
 ·have:=nodup_inj hw.nodup (i:=upN vs i) (j:=k) (by simp;omega) (by simpa using hk) (by rw [List.getElem_map,List.getElem_map];exact e)
  omega
 ·have:upN vs i=k:=by omega
  subst this
  rfl
def besB (vs:List DVer) (i k:Nat):Bool:=(decide (0<i) && decide (upOf vs i=(k:Int))) || (decide (0<k) && decide (upOf vs k=(i:Int)))
theorem besB_adj {vs:List DVer} (hw:WfR vs) {i k:Nat} (hi:i<vs.length) (hk:k<vs.length):besB vs i k=adjB vs i k:=by
 have h0:∀ j m:Nat,j<vs.length→(decide (0<j) && decide (upOf vs j=(m:Int)))=decide (upOf vs j=(m:Int)):=fun j m hj=>by
  rcases Nat.eq_zero_or_pos j with e | e
  ·subst e
   rw [(hw.up 0 hj).1 rfl,decide_eq_false (show ¬ (-1:Int)=(m:Int) by omega),Bool.and_false]
  ·rw [decide_eq_true e,Bool.true_and]
 rw [besB,adjB,h0 i k hi,h0 k i hk]
theorem row_push {S U:St} {own:Own} {n:Nat} {e:TypeId} (hU:U.WF) (hS:S.WF) (hs:S.Sub U) (h:own=.full∨∃ g,own=.row g∧S.next≤g∧U.ob g=some (.row e n)) (m:Nat):S.Sub (U.grow own e m):=⟨by rw [grow_next];have:=hs.next;omega,fun j o ej=>growR_keep hU (hs.ob _ _ ej) fun g eg e2=>by
 rcases h with h | ⟨g',h1,h2,h3⟩
 ·rw [h] at eg;cases eg
 ·rw [h1] at eg;injection eg with eg;have:=hS.lt ej;omega⟩
theorem row_fl {U:St} {own:Own} {n b:Nat} {e:TypeId} (h:own=.full∨∃ g,own=.row g∧b≤g∧U.ob g=some (.row e n)) {m:Nat} (hm:m=n):own=.full∨∃ g,own=.row g∧U.ob g=some (.row e m):=h.imp id fun ⟨g,h1,_,h3⟩=>⟨g,h1,by rw [hm];exact h3⟩
attribute [local go_sem] cl_RV okCell_RV
section
set_option maxRecDepth 200000
set_option maxHeartbeats 8000000
theorem up20_d {S:St} (own:Own) {vs:List DVer} (hw:WfR vs) (hl:vs.length≤1000000) {a:Nat} (ha:a<vs.length) :
  DCalls Tryz.prog 26 [.sl own ((rvs vs).map encRV),nD a] S (fun d T=>(∃ ow,d=.sl ow ((upL vs a).map nD))∧S.Sub T):=by
 refine dcalls_inline mixed Tryz.func26 rfl (fun _ _=>by kernel_rfl) (rs:=[.tmp 4]) rfl (by kernel_rfl) (fun hS=>?_)
 (refine dd2 @nD.eq_1 @iD.eq_1 ?_)
 have hp:=upL_ne vs a
 have hle:=upL_len (vs:=vs) a a (Nat.le_refl _)
 obtain ⟨⟨f1,f2,f3⟩,fs⟩:=upF_at hw ha
 refine dloop_up (fun t=>List.contains [1,5,8,9,10,11,12,13,14,15,16,17,18,19,20] t) (by kernel_rfl) hS ((upL vs a).length - 1) (fun i q U=>i≤(upL vs a).length - 1∧q 1=nD (upF vs a i)∧S.Sub U∧∃ ow,q 5=.sl ow (((upL vs a).take (i+1)).map nD)∧(ow=.full∨∃ g,ow=.row g∧S.next≤g∧U.ob g=some (.row 3 (i+1))))
  ⟨Nat.zero_le _,by exact di3 @upF_zero @nD.eq_1 @iD.eq_1,St.Sub.refl _,.full,by rw [upL_take hp,upF_zero];exact di6 @List.take_zero.{0} @List.nil_append.{0} @List.map_cons.{0,0} @List.map_nil.{0,0} @nD.eq_1 @iD.eq_1,.inl rfl⟩ ?_
 rintro i q U hU hg ⟨le,q1,hsU,ow,q5,hrow⟩
 (have q0:=hg 0 rfl;have q4:=hg 4 rfl;simp (disch:=first | decide | omega | (simp only [nx];first | done | omega)) only [go_sem,nD,iD] at q0 q4;clear hg)
 by_cases hlt:i<(upL vs a).length - 1
 ·obtain ⟨k0,k1,k2⟩:=fs i hlt
  have b1:decide ((upF vs a i:Int) > 0)=true:=decide_eq_true (by omega)
  have hk':upF vs a i<(rvs vs).length:=by rw [rvs_len];exact k1
  have hget:=getD_map encRV (rvs vs) _ hk'
  have lf:=((rvs vs)[upF vs a i]).frm.2
  (refine dd10 @q0 @q1 @q5 @nD.eq_1 @iD.eq_1 @b1 @hget @hk' @rv_frm @lf ?_)
  refine DCalls.of_pure (findRV_d own (rvs vs) _ (by rw [rvs_len];exact hl)) ?_
  rw [ixR_frm hw k1 k0]
  have hun:upN vs (upF vs a i)=upF vs a (i+1):=by unfold upN;rw [k2,Int.toNat_natCast]
  rw [hun]
  (refine dd5 @q0 @q1 @q5 @nD.eq_1 @iD.eq_1 ?_)
  have hpl:(((upL vs a).take (i+1)).map nD).length=i+1:=by rw [List.length_map,List.length_take];omega
  refine dapp_rowF elIs (by kernel_rfl) (by rw [byIs];omega) (row_fl hrow hpl) (by rw [hpl];omega) (fun d hd=>by obtain ⟨x,_,rfl⟩:=List.mem_map.1 hd;rw [szIs];rfl) (by rw [szIs];rfl) ?_
  rw [hpl]
  have hsG:=row_push hU hS hsU hrow (i+1+1)
  have hnew:(U.grow ow 3 (i+1+1)).ob U.next=some (.row 3 (i+1+1)):=growR_new
  (refine dd3 @q0 @q1 @q5 ?_)
  refine ⟨by omega,_,fun _ _ h=>h,by omega,by exact di2 @nD.eq_1 @iD.eq_1,hsG,.row U.next,?_,.inr ⟨U.next,rfl,hsU.next,hnew⟩⟩
  rw [upL_take (show i+1<(upL vs a).length by omega),List.map_append]
  rfl
 ·obtain rfl:i=(upL vs a).length - 1:=by omega
  have b1:decide ((upF vs a ((upL vs a).length - 1):Int) > 0)=false:=decide_eq_false (by omega)
  (refine dd6 @q0 @q1 @q5 @nD.eq_1 @iD.eq_1 @b1 ?_)
  rw [show (upL vs a).length - 1+1=(upL vs a).length by omega,List.take_length]
  exact ⟨⟨_,rfl⟩,hsU⟩
theorem up20_p (own:Own) {vs:List DVer} (hw:WfR vs) (hl:vs.length≤1000000) {a:Nat} (ha:a<vs.length):DPure Tryz.prog 26 [.sl own ((rvs vs).map encRV),nD a] (.sl .no ((upL vs a).map nD)):=fun S =>
 DCalls.at (closed_Ns _) ((up20_d own hw hl ha).mono fun d T ⟨⟨ow,hd⟩,hs⟩=>⟨by rw [hd,frz_Ns],hs⟩)
theorem beside_20 (own:Own) {vs:List DVer} (hw:WfR vs) {i k:Nat} (hi:i<vs.length) (hk:k<vs.length) :
  DPure Tryz.prog 39 [.sl own ((rvs vs).map encRV),nD i,nD k] (.v (.bool (adjB vs i k))):=by
 rw [← besB_adj hw hi hk]
 refine dpure_of_dwp mixed Tryz.func39 rfl (fun _ _=>by kernel_rfl) (rs:=[.tmp 6]) rfl (by kernel_rfl) trivial (fun S hS=>?_)
 have hi':i<(rvs vs).length:=by rw [rvs_len];exact hi
 have hk':k<(rvs vs).length:=by rw [rvs_len];exact hk
 have hgi:=getD_map encRV (rvs vs) _ hi'
 have hgk:=getD_map encRV (rvs vs) _ hk'
 have l1:=((rvs vs)[i]).frm.2
 have l2:=((rvs vs)[k]).frm.2
 have l3:=((rvs vs)[i]).name.2
 have l4:=((rvs vs)[k]).name.2
 rcases Nat.eq_zero_or_pos i with e | e
 ·have b1:decide ((i:Int) > 0)=false:=decide_eq_false (by omega)
  rcases Nat.eq_zero_or_pos k with e' | e'
  ·have b2:decide ((k:Int) > 0)=false:=decide_eq_false (by omega)
   (refine dd2 @nD.eq_1 @iD.eq_1 ?_)
   refine ddraw_mk 33 (by kernel_rfl) ?_
   (refine dd4 @nD.eq_1 @iD.eq_1 @b1 @b2 ?_)
   refine pendL ?_
   rw [besB,decide_eq_false (show ¬ 0<i by omega),decide_eq_false (show ¬ 0<k by omega)];rfl
  ·have b2:decide ((k:Int) > 0)=true:=decide_eq_true (by omega)
   (refine dd2 @nD.eq_1 @iD.eq_1 ?_)
   refine ddraw_mk 33 (by kernel_rfl) ?_
   (simp (disch:=first | decide | omega | (simp only [nx];first | done | omega)) only [go_sem,nD,iD,b1,b2,hgi,hgk,hi',hk',rv_name,rv_frm,l1,l2,l3,l4,onVal_eqH];(repeat with_reducible refine aI ?_))
   refine pendL ?_
   rw [besB,decide_eq_false (show ¬ 0<i by omega),decide_eq_true e',← frm_eq hw hk hi e'];rfl
 ·have b1:decide ((i:Int) > 0)=true:=decide_eq_true (by omega)
  cases h:decide (upOf vs i=(k:Int)) with
  | true =>
   have hf:=frm_eq hw hi hk e
   rw [h] at hf
   (refine dd2 @nD.eq_1 @iD.eq_1 ?_)
   refine ddraw_mk 33 (by kernel_rfl) ?_
   (simp (disch:=first | decide | omega | (simp only [nx];first | done | omega)) only [go_sem,nD,iD,b1,hgi,hgk,hi',hk',rv_name,rv_frm,l1,l2,l3,l4,onVal_eqH,hf];(repeat with_reducible refine aI ?_))
   refine pendL ?_
   rw [besB,decide_eq_true e,h];rfl
  | false =>
   have hf:=frm_eq hw hi hk e
   rw [h] at hf
   rcases Nat.eq_zero_or_pos k with e' | e'
   ·have b2:decide ((k:Int) > 0)=false:=decide_eq_false (by omega)
    (refine dd2 @nD.eq_1 @iD.eq_1 ?_)
    refine ddraw_mk 33 (by kernel_rfl) ?_
    (simp (disch:=first | decide | omega | (simp only [nx];first | done | omega)) only [go_sem,nD,iD,b1,b2,hgi,hgk,hi',hk',rv_name,rv_frm,l1,l2,l3,l4,onVal_eqH,hf];(repeat with_reducible refine aI ?_))
    refine pendL ?_
    rw [besB,h,decide_eq_false (show ¬ 0<k by omega),Bool.and_false];rfl
   ·have b2:decide ((k:Int) > 0)=true:=decide_eq_true (by omega)
    (refine dd2 @nD.eq_1 @iD.eq_1 ?_)
    refine ddraw_mk 33 (by kernel_rfl) ?_
    (simp (disch:=first | decide | omega | (simp only [nx];first | done | omega)) only [go_sem,nD,iD,b1,b2,hgi,hgk,hi',hk',rv_name,rv_frm,l1,l2,l3,l4,onVal_eqH,hf];(repeat with_reducible refine aI ?_))
    refine pendL ?_
    rw [besB,h,decide_eq_true e',Bool.and_false,Bool.false_or,Bool.true_and,← frm_eq hw hk hi e'];rfl
end
end Go.Proofs.YtogbklnkpjjkoaaGreatDoor
namespace Go.Proofs.YtogbklnkpjjkoaaGreatDoor
open Go.RowKit
attribute [local go_sem] cl_RV okCell_RV
section
set_option maxRecDepth 200000
set_option maxHeartbeats 8000000
theorem path20_d {S:St} (own:Own) {vs:List DVer} (hw:WfR vs) (hl:vs.length≤1000000) {a b:Nat} (ha:a<vs.length) (hb:b<vs.length) :
  DCalls Tryz.prog 14 [.sl own ((rvs vs).map encRV),nD a,nD b] S (fun d T=>(∃ ow,d=.sl ow (((wayT vs a b).map (nmAt vs)).map encH))∧S.Sub T):=by
 refine dcalls_inline mixed Tryz.func14 rfl (fun _ _=>by kernel_rfl) (rs:=[.tmp 6]) rfl (by kernel_rfl) (fun hS=>?_)
 (refine dd2 @nD.eq_1 @iD.eq_1 ?_)
 refine DCalls.of_pure (up20_p own hw hl ha) ?_
 (refine dd0 ?_)
 refine DCalls.of_pure (up20_p own hw hl hb) ?_
 (refine dd0 ?_)
 obtain ⟨t,ht⟩:=trT_ex (upL vs a) (upL vs b)
 have hway:=trim_way hw _ a b t (Nat.le_refl _) ha hb ht
 obtain ⟨hta,htb⟩:=ht.lt (upL_ne _ _) (upL_ne _ _)
 have hla:=upL_len (vs:=vs) a a (Nat.le_refl _)
 have hlb:=upL_len (vs:=vs) b b (Nat.le_refl _)
 have hma:=upL_le vs a a (Nat.le_refl _)
 have hmb:=upL_le vs b b (Nat.le_refl _)
 generalize upL vs a=ua at *
 generalize upL vs b=ub at *
 refine loop_cut (fun f' U=>f' 0=.sl own ((rvs vs).map encRV)∧(∃ ow,f' 7=.sl ow ((ua.take (ua.length - t)).map nD))∧(∃ ow,f' 8=.sl ow ((ub.take (ub.length - t)).map nD))∧U.WF∧S.Sub U) (dloop_up (fun t=>List.contains [7,8,18,19,20,21,22,23,24,25,26,27,28,29,30,31,32,33,34,35,36,37,38,39,40,41,42,43,44,45,46,47,48,49,50] t) (by kernel_rfl) hS t (fun i q U=>i≤t∧(∃ ow,q 7=.sl ow ((ua.take (ua.length - i)).map nD))∧(∃ ow,q 8=.sl ow ((ub.take (ub.length - i)).map nD))∧S.Sub U)
  ⟨Nat.zero_le _,⟨.no,by rw [Nat.sub_zero,List.take_length];exact di0⟩,⟨.no,by rw [Nat.sub_zero,List.take_length];exact di0⟩,St.Sub.refl _⟩ ?_) ?_
 ·rintro i q U hU hg ⟨le,⟨o7,q7⟩,⟨o8,q8⟩,hsU⟩
  (have q0:=hg 0 rfl;have q6:=hg 6 rfl;simp (disch:=first | decide | omega | (simp only [nx];first | done | omega)) only [go_sem,nD,iD] at q0 q6;clear hg)
  have lxa:(ua.take (ua.length - i)).length=ua.length - i:=by rw [List.length_take];omega
  have lxb:(ub.take (ub.length - i)).length=ub.length - i:=by rw [List.length_take];omega
  have gxa:∀ j,j<ua.length - i→(ua.take (ua.length - i))[j]? = ua[j]? := fun j hj=>by rw [List.getElem?_take];simp [hj]
  have gxb:∀ j,j<ub.length - i→(ub.take (ub.length - i))[j]? = ub[j]? := fun j hj=>by rw [List.getElem?_take];simp [hj]
  have txa:(ua.take (ua.length - i)).take ((ua.take (ua.length - i)).length - 1)=ua.take (ua.length - (i+1)):=by rw [lxa,List.take_take];congr 1;omega
  have txb:(ub.take (ub.length - i)).take ((ub.take (ub.length - i)).length - 1)=ub.take (ub.length - (i+1)):=by rw [lxb,List.take_take];congr 1;omega
  have hxa:∀ x∈ua.take (ua.length - i),x<vs.length:=fun x hx=>by have:=hma x (List.mem_of_mem_take hx);omega
  have hxb:∀ x∈ub.take (ub.length - i),x<vs.length:=fun x hx=>by have:=hmb x (List.mem_of_mem_take hx);omega
  by_cases hlt:i<t
  ·obtain ⟨c1,c2,c3⟩:=ht.go i hlt
   rw [← gxa _ (by omega),← gxb _ (by omega)] at c3
   rw [← lxa] at c1
   rw [← lxb] at c2
   rw [show ua.length - i - 2=(ua.take (ua.length - i)).length - 2 by rw [lxa],show ub.length - i - 2=(ub.take (ub.length - i)).length - 2 by rw [lxb]] at c3
   generalize ua.take (ua.length - i)=xa at *
   generalize ub.take (ub.length - i)=xb at *
   have ja:xa.length - 2<xa.length:=by omega
   have jb:xb.length - 2<xb.length:=by omega
   rw [List.getElem?_eq_getElem ja,List.getElem?_eq_getElem jb] at c3
   have c3:=Option.some.inj c3
   have b1:decide ((xa.length:Int) > 1)=true:=decide_eq_true (by omega)
   have b2:decide ((xb.length:Int) > 1)=true:=decide_eq_true (by omega)
   have v1:IntKind.i64.wrap ((xa.length:Int) - 2)=((xa.length - 2:Nat):Int):=by rw [show (xa.length:Int) - 2=((xa.length - 2:Nat):Int) by omega];exact IntWalk.i64_in _ ⟨by omega,by omega⟩
   have v2:IntKind.i64.wrap ((xb.length:Int) - 2)=((xb.length - 2:Nat):Int):=by rw [show (xb.length:Int) - 2=((xb.length - 2:Nat):Int) by omega];exact IntWalk.i64_in _ ⟨by omega,by omega⟩
   have v3:IntKind.i64.wrap ((xa.length:Int) - 1)=((xa.length - 1:Nat):Int):=by rw [show (xa.length:Int) - 1=((xa.length - 1:Nat):Int) by omega];exact IntWalk.i64_in _ ⟨by omega,by omega⟩
   have v4:IntKind.i64.wrap ((xb.length:Int) - 1)=((xb.length - 1:Nat):Int):=by rw [show (xb.length:Int) - 1=((xb.length - 1:Nat):Int) by omega];exact IntWalk.i64_in _ ⟨by omega,by omega⟩
   have g1:=getD_map nD xa (xa.length - 2) ja
   have g2:=getD_map nD xb (xb.length - 2) jb
   have ee:(((xa[xa.length - 2]:Nat):Int) == ((xb[xb.length - 2]:Nat):Int))=true:=by rw [c3];simp
   refine ddraw_mk 23 (by kernel_rfl) ?_
   (refine dd13 @q7 @q8 @b1 @b2 @v1 @v2 @g1 @g2 @ja @jb @nD.eq_1 @iD.eq_1 @ee ?_)
   refine ddraw_mk 12 (by kernel_rfl) ?_
   (refine dd5 @q7 @q8 @v3 @v4 @List.drop_zero.{0} ?_)
   exact ⟨⟨by omega,.inl trivial⟩,⟨by omega,.inl trivial⟩,hlt,_,fun _ _ h=>h,by omega,⟨.no,by rw [← txa,List.map_take];exact di0⟩,⟨.no,by rw [← txb,List.map_take];exact di0⟩,hsU⟩
  ·obtain rfl:i=t:=by omega
   have hstop:¬ (1<(ua.take (ua.length - i)).length∧1<(ub.take (ub.length - i)).length∧(ua.take (ua.length - i))[(ua.take (ua.length - i)).length - 2]? = (ub.take (ub.length - i))[(ub.take (ub.length - i)).length - 2]?):=fun ⟨c1,c2,c3⟩=>ht.stop ⟨by omega,by omega,by rw [← gxa _ (by omega),← gxb _ (by omega)];rw [lxa,lxb] at c3;exact c3⟩
   generalize ua.take (ua.length - i)=xa at *
   generalize ub.take (ub.length - i)=xb at *
   by_cases c1:1<xa.length
   ·have b1:decide ((xa.length:Int) > 1)=true:=decide_eq_true (by omega)
    by_cases c2:1<xb.length
    ·have b2:decide ((xb.length:Int) > 1)=true:=decide_eq_true (by omega)
     have ja:xa.length - 2<xa.length:=by omega
     have jb:xb.length - 2<xb.length:=by omega
     rw [List.getElem?_eq_getElem ja,List.getElem?_eq_getElem jb] at hstop
     have v1:IntKind.i64.wrap ((xa.length:Int) - 2)=((xa.length - 2:Nat):Int):=by rw [show (xa.length:Int) - 2=((xa.length - 2:Nat):Int) by omega];exact IntWalk.i64_in _ ⟨by omega,by omega⟩
     have v2:IntKind.i64.wrap ((xb.length:Int) - 2)=((xb.length - 2:Nat):Int):=by rw [show (xb.length:Int) - 2=((xb.length - 2:Nat):Int) by omega];exact IntWalk.i64_in _ ⟨by omega,by omega⟩
     have g1:=getD_map nD xa (xa.length - 2) ja
     have g2:=getD_map nD xb (xb.length - 2) jb
     have ee:(((xa[xa.length - 2]:Nat):Int) == ((xb[xb.length - 2]:Nat):Int))=false:=by
      rw [beq_eq_false_iff_ne]
      exact fun e=>hstop ⟨c1,c2,by congr 1;omega⟩
     refine ddraw_mk 23 (by kernel_rfl) ?_
     (refine dd13 @q7 @q8 @b1 @b2 @v1 @v2 @g1 @g2 @ja @jb @nD.eq_1 @iD.eq_1 @ee ?_)
     exact ⟨⟨_,rfl⟩,⟨_,rfl⟩,hU,hsU⟩
    ·have b2:decide ((xb.length:Int) > 1)=false:=decide_eq_false (by omega)
     refine ddraw_mk 23 (by kernel_rfl) ?_
     (refine dd4 @q7 @q8 @b1 @b2 ?_)
     exact ⟨⟨_,rfl⟩,⟨_,rfl⟩,hU,hsU⟩
   ·have b1:decide ((xa.length:Int) > 1)=false:=decide_eq_false (by omega)
    refine ddraw_mk 23 (by kernel_rfl) ?_
    (refine dd3 @q7 @q8 @b1 ?_)
    exact ⟨⟨_,rfl⟩,⟨_,rfl⟩,hU,hsU⟩
 ·rintro f' U ⟨f0,⟨o7,f7⟩,⟨o8,f8⟩,hU,hsU⟩
  (refine dd0 ?_)
  have lxa:(ua.take (ua.length - t)).length=ua.length - t:=by rw [List.length_take];omega
  have lxb:(ub.take (ub.length - t)).length=ub.length - t:=by rw [List.length_take];omega
  have txb:(ub.take (ub.length - t)).take ((ub.take (ub.length - t)).length - 1)=ub.take (ub.length - t - 1):=by rw [lxb,List.take_take];congr 1;omega
  have hxa:∀ x∈ua.take (ua.length - t),x<vs.length:=fun x hx=>by have:=hma x (List.mem_of_mem_take hx);omega
  have hxb:∀ x∈ub.take (ub.length - t),x<vs.length:=fun x hx=>by have:=hmb x (List.mem_of_mem_take hx);omega
  rw [← txb] at hway
  generalize ua.take (ua.length - t)=xa at *
  generalize ub.take (ub.length - t)=xb at *
  have hwl:=way_len hw ha hb
  rw [← hway] at hwl
  rw [List.length_append,List.length_reverse,List.length_take] at hwl
  rw [← hway]
  generalize hyb:(xb.take (xb.length - 1)).reverse=yb
  have lyb:yb.length=xb.length - 1:=by rw [← hyb,List.length_reverse,List.length_take];omega
  refine dloop_up (fun t=>List.contains [9,10,51,52,53,54,55,56,57,58,59,60,61,62,63,64,65,66,67] t) (by kernel_rfl) hU xa.length (fun i q V=>i≤xa.length∧q 10=.v (.int .i64 ((i:Nat):Int))∧S.Sub V∧∃ ow,q 9=.sl ow (((xa.take i).map (nmAt vs)).map encH)∧(ow=.full∨∃ g,ow=.row g∧S.next≤g∧V.ob g=some (.row 39 i)))
   ⟨Nat.zero_le _,by exact di0,hsU,.full,by exact di2 @List.take_zero.{0} @List.map_nil.{0,0},.inl rfl⟩ ?_
  rintro i q V hV hg ⟨le,q10,hsV,ow,q9,hrow⟩
  (have q0:=hg 0 rfl;have q6:=hg 6 rfl;have q7:=hg 7 rfl;have q8:=hg 8 rfl;simp (disch:=first | decide | omega | (simp only [nx];first | done | omega)) only [go_sem,f0,f7,f8] at q0 q6 q7 q8;clear hg)
  by_cases hlt:i<xa.length
  ·have b1:decide ((i:Int)<(xa.length:Int))=true:=decide_eq_true (by omega)
   have w1:IntKind.i64.wrap ((i:Int)+1)=((i+1:Nat):Int):=IntWalk.i64_in _ ⟨by omega,by omega⟩
   have g1:=getD_map nD xa i hlt
   have hxi:=hxa _ (List.getElem_mem hlt)
   have hxi':xa[i]<(rvs vs).length:=by rw [rvs_len];exact hxi
   have g2:=getD_map encRV (rvs vs) _ hxi'
   have hnm:((rvs vs)[xa[i]]).name=nmAt vs xa[i]:=by rw [rvs_name hxi,nmAt_lt hxi]
   have ln:=(nmAt vs xa[i]).2
   (refine dd14 @q0 @q7 @q10 @q9 @b1 @g1 @g2 @hlt @hxi' @nD.eq_1 @iD.eq_1 @rv_name @hnm @ln ?_)
   have hpl:(((xa.take i).map (nmAt vs)).map encH).length=i:=by rw [List.length_map,List.length_map,List.length_take];omega
   refine dapp_rowF elHs zeHs (by rw [byHs];omega) (row_fl hrow hpl) (by rw [hpl];omega) (fun d hd=>by obtain ⟨x,_,rfl⟩:=List.mem_map.1 hd;rw [szHs];exact width_encH x) (by rw [szHs];exact width_encH _) ?_
   rw [hpl]
   have hsG:=row_push hV hS hsV hrow (i+1)
   have hnew:(V.grow ow 39 (i+1)).ob V.next=some (.row 39 (i+1)):=growR_new
   (refine dd5 @q0 @q7 @q10 @q9 @w1 ?_)
   refine ⟨by omega,_,fun _ _ h=>h,by omega,by exact di0,hsG,.row V.next,?_,.inr ⟨V.next,rfl,hsV.next,hnew⟩⟩
   rw [List.take_succ_eq_append_getElem hlt,List.map_append,List.map_append]
   rfl
  ·obtain rfl:i=xa.length:=by omega
   have b1:decide (((xa.length:Nat):Int)<(xa.length:Int))=false:=decide_eq_false (by omega)
   rw [List.take_length] at q9
   have w0:IntKind.i64.wrap ((xb.length:Int) - 2)=(xb.length:Int) - 2:=IntWalk.i64_in _ ⟨by omega,by omega⟩
   (refine dd7 @q0 @q7 @q8 @q10 @q9 @b1 @w0 ?_)
   refine dloop_up (fun t=>List.contains [9,11,71,72,73,74,75,76,77,78,79,80,81,82,83,84,85] t) (by kernel_rfl) hV (xb.length - 1) (fun i q V=>i≤xb.length - 1∧q 11=.v (.int .i64 ((xb.length:Int) - 2 - (i:Int)))∧S.Sub V∧∃ ow,q 9=.sl ow (((xa++yb.take i).map (nmAt vs)).map encH)∧(ow=.full∨∃ g,ow=.row g∧S.next≤g∧V.ob g=some (.row 39 (xa.length+i))))
    ⟨Nat.zero_le _,by rw [show (xb.length:Int) - 2 - ((0:Nat):Int)=(xb.length:Int) - 2 by omega];exact di0,hsV,ow,by rw [List.take_zero,List.append_nil];exact di1 @q9,hrow⟩ ?_
   clear q9 hrow q10
   rintro i q' V hV hgb ⟨le,q11,hsV,ow,q9,hrow⟩
   (have q0b:=hgb 0 rfl;have q6b:=hgb 6 rfl;have q8b:=hgb 8 rfl;simp (disch:=first | decide | omega | (simp only [nx];first | done | omega)) only [go_sem,q0,q7,q8] at q0b q6b q8b;clear hgb)
   by_cases hlt:i<xb.length - 1
   ·have hn:(xb.length:Int) - 2 - (i:Int)=((xb.length - 2 - i:Nat):Int):=by omega
    rw [hn] at q11
    have hj:xb.length - 2 - i<xb.length:=by omega
    have b2:decide (0≤((xb.length - 2 - i:Nat):Int))=true:=decide_eq_true (by omega)
    have w1:IntKind.i64.wrap (((xb.length - 2 - i:Nat):Int) - 1)=(xb.length:Int) - 2 - ((i+1:Nat):Int):=by rw [show ((xb.length - 2 - i:Nat):Int) - 1=(xb.length:Int) - 2 - ((i+1:Nat):Int) by omega];exact IntWalk.i64_in _ ⟨by omega,by omega⟩
    have g1:=getD_map nD xb _ hj
    have hxi:=hxb _ (List.getElem_mem hj)
    have hxi':xb[xb.length - 2 - i]<(rvs vs).length:=by rw [rvs_len];exact hxi
    have g2:=getD_map encRV (rvs vs) _ hxi'
    have hnm:((rvs vs)[xb[xb.length - 2 - i]]).name=nmAt vs xb[xb.length - 2 - i]:=by rw [rvs_name hxi,nmAt_lt hxi]
    have ln:=(nmAt vs xb[xb.length - 2 - i]).2
    have hzl:(xa++yb.take i).length=xa.length+i:=by rw [List.length_append,List.length_take];omega
    have hzn:xa++yb.take (i+1)=xa++yb.take i++[xb[xb.length - 2 - i]]:=by
     have hyl:i<yb.length:=by omega
     have hyi:yb[i]=xb[xb.length - 2 - i]:=by
      subst hyb
      rw [List.getElem_reverse,List.getElem_take]
      congr 1
      rw [List.length_take];omega
     rw [List.take_succ_eq_append_getElem hyl,hyi,← List.append_assoc]
    have hyle:xa.length+i≤1000000:=by omega
    generalize xa++yb.take i=zb at *
    (refine dd14 @q0b @q8b @q11 @q9 @b2 @g1 @g2 @hj @hxi' @nD.eq_1 @iD.eq_1 @rv_name @hnm @ln ?_)
    have hpl:((zb.map (nmAt vs)).map encH).length=xa.length+i:=by rw [List.length_map,List.length_map,hzl]
    refine dapp_rowF elHs zeHs (by rw [byHs];omega) (row_fl hrow hpl) (by rw [hpl];omega) (fun d hd=>by obtain ⟨x,_,rfl⟩:=List.mem_map.1 hd;rw [szHs];exact width_encH x) (by rw [szHs];exact width_encH _) ?_
    rw [hpl]
    have hsG:=row_push hV hS hsV hrow (xa.length+i+1)
    have hnew:(V.grow ow 39 (xa.length+i+1)).ob V.next=some (.row 39 (xa.length+i+1)):=growR_new
    (refine dd5 @q0b @q8b @q11 @q9 @w1 ?_)
    refine ⟨by omega,_,fun _ _ h=>h,by omega,by exact di0,hsG,.row V.next,?_,.inr ⟨V.next,rfl,hsV.next,hnew⟩⟩
    rw [hzn,List.map_append,List.map_append]
    rfl
   ·obtain rfl:i=xb.length - 1:=by omega
    have b2:decide (0≤(xb.length:Int) - 2 - ((xb.length - 1:Nat):Int))=false:=decide_eq_false (by omega)
    rw [← lyb,List.take_length] at q9
    (refine dd5 @q0b @q8b @q11 @q9 @b2 ?_)
    exact ⟨⟨_,rfl⟩,hsV⟩
theorem path20_p (own:Own) {vs:List DVer} (hw:WfR vs) (hl:vs.length≤1000000) {a b:Nat} (ha:a<vs.length) (hb:b<vs.length):DPure Tryz.prog 14 [.sl own ((rvs vs).map encRV),nD a,nD b] (.sl .no (((wayT vs a b).map (nmAt vs)).map encH)):=fun S =>
 DCalls.at (closed_Hs _) ((path20_d own hw hl ha hb).mono fun d T ⟨⟨ow,hd⟩,hs⟩=>⟨by rw [hd,frz_slH],hs⟩)
end
end Go.Proofs.YtogbklnkpjjkoaaGreatDoor
namespace Go.Proofs.YtogbklnkpjjkoaaGreatDoor
open Go.RowKit
def encE (p:Nat × Nat):D:=.agg [nD p.1,nD p.2]
theorem elE2:elT Tryz.prog 54=some 57:=by kernel_rfl
theorem szE2:szOf Tryz.prog 57=2:=by kernel_rfl
theorem byE2:bytesOf Tryz.prog 57≤1000:=by decide +kernel
theorem zeE2:zeroT Tryz.prog 57=true:=by kernel_rfl
theorem width_E2 (p:Nat × Nat):(encE p).width=2:=rfl
theorem rowO_sub {V T:St} {own:Own} {e:TypeId} {n b:Nat} (h:own=.full∨∃ g,own=.row g∧b≤g∧V.ob g=some (.row e n)) (hs:V.Sub T):own=.full∨∃ g,own=.row g∧b≤g∧T.ob g=some (.row e n):=h.imp id fun ⟨g,h1,h2,h3⟩=>⟨g,h1,h2,hs.ob _ _ h3⟩
theorem row_other {V:St} {own own':Own} {e e':TypeId} {n n' b b':Nat} (hV:V.WF) (h:own=.full∨∃ g,own=.row g∧b≤g∧V.ob g=some (.row e n)) (h':own'=.full∨∃ g,own'=.row g∧b'≤g∧V.ob g=some (.row e' n')) (hne:e' ≠ e) (m:Nat) :
  own'=.full∨∃ g,own'=.row g∧b'≤g∧(V.grow own e m).ob g=some (.row e' n'):=h'.imp id fun ⟨g,h1,h2,h3⟩=>⟨g,h1,h2,growR_keep hV h3 fun g2 e2 ej=>by
 rcases h with h | ⟨g3,k1,k2,k3⟩
 ·rw [h] at e2;cases e2
 ·rw [k1] at e2
  injection e2 with e2
  subst e2
  subst ej
  rw [h3] at k3
  injection k3 with k3
  injection k3 with k3
  exact hne k3⟩
def OutV (S V:St) (s:Bf) (x y:D):Prop:=∃ o6 o5,x=.sl o6 (s.1.map nD)∧y=.sl o5 (s.2.map encE)∧(o6=.full∨∃ g,o6=.row g∧S.next≤g∧V.ob g=some (.row 3 s.1.length))∧(o5=.full∨∃ g,o5=.row g∧S.next≤g∧V.ob g=some (.row 57 s.2.length))
def freshB (vs:List DVer) (c k:Nat) (R:List Nat) (j:Nat):Bool:=adjB vs c k && decide (k ∉ R.take j)
theorem freshB_succ {vs:List DVer} {c k:Nat} {R:List Nat} {j:Nat} (h:j<R.length):freshB vs c k R (j+1)=(freshB vs c k R j && !decide (R[j]=k)):=by
 unfold freshB
 rw [List.take_succ_eq_append_getElem h,Bool.and_assoc]
 congr 1
 rw [Bool.eq_iff_iff]
 simp only [decide_eq_true_eq,List.mem_append,List.mem_singleton,Bool.and_eq_true,Bool.not_eq_true',decide_eq_false_iff_not,not_or]
 exact ⟨fun ⟨h1,h2⟩=>⟨h1,fun e=>h2 e.symm⟩,fun ⟨h1,h2⟩=>⟨h1,fun e=>h2 e.symm⟩⟩
theorem frz_E2s (own:Own) (l:List (Nat × Nat)):(D.sl own (l.map encE)).frz=.sl .no (l.map encE):=by
 rw [D.frz,frzL_map,List.map_map]
 rfl
theorem closed_E2s (l:List (Nat × Nat)):(D.sl .no (l.map encE)).closed:=by
 simp only [D.closed,D.all,Own.all,true_and]
 exact allL_iff.2 fun d hd=>by obtain ⟨v,_,rfl⟩:=List.mem_map.1 hd;simp [encE,nD,iD,D.all,allL]
section
set_option maxRecDepth 200000
set_option maxHeartbeats 8000000
theorem out20_d {S:St} (own:Own) {vs:List DVer} (hw:WfR vs) (hl:vs.length≤1000000) {a:Nat} (ha:a<vs.length) :
  DCalls Tryz.prog 16 [.sl own ((rvs vs).map encRV),nD a] S (fun d T=>(∃ ow,d=.sl ow ((outW vs a).map encE))∧S.Sub T):=by
 refine dcalls_inline mixed Tryz.func16 rfl (fun _ _=>by kernel_rfl) (rs:=[.tmp 4]) rfl (by kernel_rfl) (fun hS=>?_)
 (refine dd2 @nD.eq_1 @iD.eq_1 ?_)
 have hln:=rvs_len vs
 have hRle:=bfR_le ha
 refine dloop_up (fun t=>List.contains [5,6,7,8,9,10,13,14,15,16,17,18,19,20,21,22,23,24,25,26,27,28,29,30,31,32,33,34,35,36,37,38,39,40,41,42,43,44,45,46,47,48,49,50,51,52,53,54,55,56,57,58,59,60] t) (by kernel_rfl) hS (bfR vs a) (fun p q V=>p≤bfR vs a∧q 7=.v (.int .i64 ((p:Nat):Int))∧S.Sub V∧OutV S V (bfs vs a p) (q 6) (q 5))
  ⟨Nat.zero_le _,by exact di0,St.Sub.refl _,.full,.full,by (first | (simp (disch:=first | decide | omega | (simp only [nx];first | done | omega)) only [go_sem,bfs,List.map_cons,List.map_nil,nD,iD];first | done | rfl) | rfl),by (first | (simp (disch:=first | decide | omega | (simp only [nx];first | done | omega)) only [go_sem,bfs,List.map_nil];first | done | rfl) | rfl),.inl rfl,.inl rfl⟩ ?_
 rintro p q V hV hg ⟨le,q7,hsV,o6,o5,q6,q5,r6,r5⟩
 (have q0:=hg 0 rfl;have q4:=hg 4 rfl;simp (disch:=first | decide | omega | (simp only [nx];first | done | omega)) only [go_sem,nD,iD] at q0 q4;clear hg)
 have hpl:=bfs_len vs ha p
 have hp2:=bfs_len2 vs a p
 have hok:=bfs_ok vs ha p
 by_cases hlt:p<bfR vs a
 ·have hgo:=bfR_go ha hlt
  have hat:=bfs_at hgo
  rw [← bfK_end] at hat
  have hc:=hok.2 _ (List.getElem_mem hgo)
  generalize hs0:bfs vs a p=s0 at *
  generalize hcc:s0.1[p]=c at *
  have b1:decide ((p:Int)<(s0.1.length:Int))=true:=decide_eq_true (by omega)
  (refine dd5 @q0 @q6 @q7 @q5 @b1 ?_)
  refine dloop_up (fun t=>List.contains [5,6,8,9,10,19,20,21,22,23,24,25,26,27,28,29,30,31,32,33,34,35,36,37,38,39,40,41,42,43,44,45,46,47,48,49,50,51,52,53,54,55,56,57,58,59,60] t) (by kernel_rfl) hV vs.length (fun k q V=>k≤vs.length∧q 8=.v (.int .i64 ((k:Nat):Int))∧S.Sub V∧OutV S V (bfK vs c k s0) (q 6) (q 5))
   ⟨Nat.zero_le _,by exact di0,hsV,o6,o5,by exact di1 @q6,by exact di1 @q5,r6,r5⟩ ?_
  rintro k q' V2 hV2 hgb ⟨lek,q8,hsV2,o6',o5',q6',q5',r6',r5'⟩
  (have q0b:=hgb 0 rfl;have q4b:=hgb 4 rfl;have q7b:=hgb 7 rfl;simp (disch:=first | decide | omega | (simp only [nx];first | done | omega)) only [go_sem,q0,q7] at q0b q4b q7b;clear hgb)
  have hok2:=bfK_ok (vs:=vs) (a:=c) lek hok.1 hok.2
  have hl2:=nodup_len hok2.1 hok2.2
  have hlp:(bfK vs c k s0).2.length+1=(bfK vs c k s0).1.length:=bfFold_len2 hp2
  have hpre:s0.1 <+: (bfK vs c k s0).1:=(bfFold_pre _ _).1
  have hpl2:p<(bfK vs c k s0).1.length:=by have:=hpre.length_le;omega
  have hcent:(bfK vs c k s0).1[p]=c:=(hpre.getElem hgo).symm.trans hcc
  have hsucc:=bfK_succ vs c k s0
  by_cases hk:k<vs.length
  ·generalize hss:bfK vs c k s0=s at *
   have b2:decide ((k:Int)<(vs.length:Int))=true:=decide_eq_true (by omega)
   have g1:=getD_map nD s.1 p hpl2
   have w1:IntKind.i64.wrap ((k:Int)+1)=((k+1:Nat):Int):=IntWalk.i64_in _ ⟨by omega,by omega⟩
   (refine dd11 @q0b @q8 @hln @b2 @q6' @q7b @g1 @hcent @hpl2 @nD.eq_1 @iD.eq_1 ?_)
   refine DCalls.of_pure (beside_20 own hw hc hk) ?_
   (refine dd0 ?_)
   refine dloop_up (fun t=>List.contains [9,10,32,33,34,35,36,37,38,39,40,41,42,43,44,45,46] t) (by kernel_rfl) hV2 s.1.length (fun j q V=>j≤s.1.length∧q 10=.v (.int .i64 ((j:Nat):Int))∧q 9=.v (.bool (freshB vs c k s.1 j))∧V2.Sub V)
    ⟨Nat.zero_le _,by exact di0,by rw [freshB,List.take_zero,decide_eq_true (List.not_mem_nil),Bool.and_true];exact di0,St.Sub.refl _⟩ ?_
   rintro j q3 V3 hV3 hgc ⟨lej,q10,q9,hs3⟩
   (have q4c:=hgc 4 rfl;have q5c:=hgc 5 rfl;have q6c:=hgc 6 rfl;have q7c:=hgc 7 rfl;have q8c:=hgc 8 rfl;simp (disch:=first | decide | omega | (simp only [nx];first | done | omega)) only [go_sem,q0b,q7b,q8,q6',q5'] at q4c q5c q6c q7c q8c;clear hgc)
   have w2:IntKind.i64.wrap ((j:Int)+1)=((j+1:Nat):Int):=IntWalk.i64_in _ ⟨by omega,by omega⟩
   by_cases hj:j<s.1.length
   ·have b3:decide ((j:Int)<(s.1.length:Int))=true:=decide_eq_true (by omega)
    have g2:=getD_map nD s.1 j hj
    have hfs:=freshB_succ (vs:=vs) (c:=c) (k:=k) hj
    have hne:(((s.1[j]:Nat):Int) != (k:Int)) = !decide (s.1[j]=k):=by
     rw [Bool.eq_iff_iff,bne_iff_ne,Bool.not_eq_true',decide_eq_false_iff_not]
     omega
    cases hf:freshB vs c k s.1 j with
    | true =>
     rw [hf] at q9 hfs
     (refine dd11 @q10 @q9 @q6c @q8c @b3 @g2 @hj @nD.eq_1 @iD.eq_1 @hne @w2 ?_)
     exact ⟨by omega,_,fun _ _ h=>h,by omega,by exact di0,by rw [hfs,Bool.true_and];exact di0,hs3⟩
    | false =>
     rw [hf] at q9 hfs
     (refine dd6 @q10 @q9 @q6c @q8c @b3 @w2 ?_)
     exact ⟨by omega,_,fun _ _ h=>h,by omega,by exact di0,by rw [hfs,Bool.false_and];exact di0,hs3⟩
   ·obtain rfl:j=s.1.length:=by omega
    have b3:decide ((s.1.length:Int)<(s.1.length:Int))=false:=decide_eq_false (by omega)
    have hsV3:=hsV2.trans hs3
    have r6c:=rowO_sub r6' hs3
    have r5c:=rowO_sub r5' hs3
    have hff:freshB vs c k s.1 s.1.length=(adjB vs c k && decide (k ∉ s.1)):=by rw [freshB,List.take_length]
    cases hf:freshB vs c k s.1 s.1.length with
    | true =>
     rw [hf] at q9 hff
     have hff:=hff.symm
     rw [Bool.and_eq_true,decide_eq_true_eq] at hff
     have hs1:bfK vs c (k+1) s0=(s.1++[k],s.2++[(c,k)]):=by rw [hsucc,if_pos hff.1,bfOne,if_neg hff.2]
     (refine dd7 @q10 @q9 @q6c @q8c @b3 @nD.eq_1 @iD.eq_1 ?_)
     have hpl6:(s.1.map nD).length=s.1.length:=List.length_map _
     refine dapp_rowF elIs (by kernel_rfl) (by rw [byIs];omega) (row_fl r6c hpl6) (by rw [hpl6];omega) (fun d hd=>by obtain ⟨x,_,rfl⟩:=List.mem_map.1 hd;rw [szIs];rfl) (by rw [szIs];rfl) ?_
     rw [hpl6]
     have hsG:=row_push hV3 hS hsV3 r6c (s.1.length+1)
     have hWG:(V3.grow o6' 3 (s.1.length+1)).WF:=growR_WF hV3
     have hnew:(V3.grow o6' 3 (s.1.length+1)).ob V3.next=some (.row 3 (s.1.length+1)):=growR_new
     have r5d:=row_other hV3 r6c r5c (by decide) (s.1.length+1)
     have hV3n:=hV3
     generalize V3.grow o6' 3 (s.1.length+1)=V4 at *
     rw [show s.1.map nD++[D.v (Value.int .i64 ((k:Nat):Int))]=(s.1++[k]).map nD by rw [List.map_append];rfl]
     have hR1:(s.1++[k]).length=s.1.length+1:=by simp
     have hR2:p<(s.1++[k]).length:=by omega
     have hR3:(s.1++[k])[p]=c:=by rw [List.getElem_append_left hpl2];exact hcent
     generalize hRR:s.1++[k]=R' at *
     have g3:=getD_map nD R' p hR2
     (refine dd8 @g3 @hR3 @hR2 @q5c @q7c @q8c @nD.eq_1 @iD.eq_1 ?_)
     have hpl5:(s.2.map encE).length=s.2.length:=List.length_map _
     refine dapp_rowF elE2 zeE2 byE2 (row_fl r5d hpl5) (by rw [hpl5];omega) (fun d hd=>by obtain ⟨x,_,rfl⟩:=List.mem_map.1 hd;rw [szE2];exact width_E2 x) (by rw [szE2];rfl) ?_
     rw [hpl5]
     have r6d:(Own.row V3.next)=.full∨∃ g,(Own.row V3.next)=.row g∧S.next≤g∧V4.ob g=some (.row 3 (s.1.length+1)):=.inr ⟨V3.next,rfl,hsV3.next,hnew⟩
     have hsG2:=row_push hWG hS hsG r5d (s.2.length+1)
     have hnew2:(V4.grow o5' 57 (s.2.length+1)).ob V4.next=some (.row 57 (s.2.length+1)):=growR_new
     have r6e:=row_other hWG r5d r6d (by decide) (s.2.length+1)
     (refine dd2 @q8c @w1 ?_)
     refine ⟨hk,_,fun _ _ h=>h,by omega,by exact di0,hsG2,.row V3.next,.row V4.next,by rw [hs1];exact di0,?_,by rw [hs1,show ((R',s.2++[(c,k)]):Bf).1.length=s.1.length+1 from hR1];exact r6e,.inr ⟨V4.next,rfl,hsG.next,by rw [hs1];simpa using hnew2⟩⟩
     rw [hs1]
     simp only [List.map_append]
     exact di0
    | false =>
     rw [hf] at q9 hff
     have hs1:bfK vs c (k+1) s0=s:=by
      rw [hsucc]
      by_cases h1:adjB vs c k=true
      ·rw [if_pos h1,bfOne,if_pos]
       rw [h1,Bool.true_and] at hff
       have:=of_decide_eq_false hff.symm
       exact Classical.not_not.1 this
      ·rw [if_neg h1]
     (refine dd6 @q10 @q9 @q6c @q8c @b3 @w1 ?_)
     exact ⟨hk,_,fun _ _ h=>h,by omega,by exact di0,hsV3,o6',o5',by rw [hs1];exact di1 @q6c,by rw [hs1];exact di1 @q5c,by rw [hs1];exact r6c,by rw [hs1];exact r5c⟩
  ·obtain rfl:k=vs.length:=by omega
   have b2:decide ((vs.length:Int)<(vs.length:Int))=false:=decide_eq_false (by omega)
   have w1:IntKind.i64.wrap ((p:Int)+1)=((p+1:Nat):Int):=IntWalk.i64_in _ ⟨by omega,by omega⟩
   (refine dd6 @q0b @q8 @hln @b2 @q7b @w1 ?_)
   rw [← hat] at q6' q5' r6' r5'
   exact ⟨hlt,_,fun _ _ h=>h,by omega,by exact di0,hsV2,o6',o5',by exact di1 @q6',by exact di1 @q5',r6',r5'⟩
 ·obtain rfl:p=bfR vs a:=by omega
  have hend:=bfR_end ha
  have hfin:=bfs_fin ha
  generalize hs0:bfs vs a (bfR vs a)=s0 at *
  have b1:decide ((bfR vs a:Int)<(s0.1.length:Int))=false:=decide_eq_false (by omega)
  (refine dd5 @q0 @q6 @q7 @q5 @b1 ?_)
  rw [← hfin]
  exact ⟨⟨_,rfl⟩,hsV⟩
theorem out20_p (own:Own) {vs:List DVer} (hw:WfR vs) (hl:vs.length≤1000000) {a:Nat} (ha:a<vs.length):DPure Tryz.prog 16 [.sl own ((rvs vs).map encRV),nD a] (.sl .no ((outW vs a).map encE)):=fun S =>
 DCalls.at (closed_E2s _) ((out20_d own hw hl ha).mono fun d T ⟨⟨ow,hd⟩,hs⟩=>⟨by rw [hd,frz_E2s],hs⟩)
end
attribute [local go_sem] cl_RV okCell_RV
section
set_option maxRecDepth 200000
set_option maxHeartbeats 8000000
theorem paths_d (s:DSch) (ls:List DRst) (hs:okS s) (hl:ls.length≤140737488351232) (hok:∀ x∈ls,okL x.lens):DPure Tryz.prog 3 [encS s,.sl .no (ls.map encSp)] (.v (.bool true)):=by
 refine dpure_nil (cl_args2 s ls) (dat_of_dwpL mixed Tryz.func3 rfl (fun _ _=>by kernel_rfl) (rs:=[.tmp 4]) rfl (by kernel_rfl) (by trivial) (fun hS=>?_))
 have lS:=cells_encS s
 have aS:D.agg (encS s).cells=encS s:=by rw [encS_eq];rfl
 (refine dd2 @lS @aS ?_)
 refine DCalls.of_pure (greatSD s hs) ?_
 cases hg:greatS s with
 | true =>
  (refine dd0 ?_)
  refine DCalls.of_pure awake20_d ?_
  (refine dd0 ?_)
  refine pendL ?_
  rfl
 | false =>
 (refine dd0 ?_)
 refine DCalls.of_pure (great20_d .no ls hl hok) ?_
 cases hg2:greatSt ls with
 | true =>
  (refine dd0 ?_)
  refine DCalls.of_pure awake20_d ?_
  (refine dd0 ?_)
  refine pendL ?_
  rfl
 | false =>
 (refine dd2 @lS @aS ?_)
 obtain ⟨hl14,hok2⟩:=stSmall hg2 hok
 have hsw:=(smallS hg).1
 refine DCalls.mono (DCalls.wf (made_a s .no ls hs (by omega) hl14 hok2)) ?_
 rintro d T ⟨hd,hT⟩
 unfold MadeK at hd
 by_cases hR:s.kind=5∧rightS 5 s=true
 ·rw [if_pos hR] at hd
  obtain ⟨k,F,rfl,hr,hF,hsT⟩:=hd
  have hv:=mdV_ok hs hR.2 hok2 ls.length (Nat.le_refl _)
  have hvl:=mdV_len s ls ls.length (Nat.le_refl _)
  generalize mdV s ls ls.length=vs at *
  have hw:=hv.wf
  have hpos:=hv.pos
  have hln:=rvs_len vs
  have e0:((vs.length:Int) == 0)=false:=by rw [beq_eq_false_iff_ne];omega
  (refine dd2 @hln @e0 ?_)
  refine dloop_up (fun t=>List.contains [4,8,9,10,11,12,13,14,15,16,42,43,44,45,46,47,48,49,50,51,52,53,54,55,56,57,58,59,60,61,62,63,64,65,66,67,68,69,70,71,72,73,74,75,76,77,78,79,80,81,82,83,84,85,86,87,88,89,90,91,92,93,94,95,96,97,98,99,100,101,102,103,104,105,106,107,108,109,110,111,112,113,114,115,116,117,118,119,120,121,122,123,124,125,126,127,128,129,130,131,132,133,134,135,136,137,138,139,140,141] t) (by kernel_rfl) hT vs.length (fun i q U=>i≤vs.length∧q 8=.v (.int .i64 ((i:Nat):Int))∧T.Sub U) ⟨Nat.zero_le _,by exact di0,St.Sub.refl _⟩ ?_
  rintro i q U hU hg ⟨le,q8,hsU⟩
  (have q5:=hg 5 rfl;have q6:=hg 6 rfl;simp (disch:=first | decide | omega | (simp only [nx];first | done | omega)) only [go_sem] at q5 q6;clear hg)
  have hrU:=hr.sub hsU
  by_cases hi:i<vs.length
  ·have b1:decide ((i:Int)<(vs.length:Int))=true:=decide_eq_true (by omega)
   have w1:IntKind.i64.wrap ((i:Int)+1)=((i+1:Nat):Int):=IntWalk.i64_in _ ⟨by omega,by omega⟩
   have hi':i<(rvs vs).length:=by omega
   have gi:=getD_map encRV (rvs vs) i hi'
   have ni:=rvs_nm hi
   have li:=(nmAt vs i).2
   (refine dd5 @q5 @q6 @q8 @hln @b1 ?_)
   refine dloop_up (fun t=>List.contains [4,9,10,11,48,49,50,51,52,53,54,55,56,57,58,59,60,61,62,63,64,65,66,67,68,69,70,71,72,73,74,75,76,77,78,79] t) (by kernel_rfl) hU vs.length (fun j q V=>j≤vs.length∧q 9=.v (.int .i64 ((j:Nat):Int))∧U.Sub V) ⟨Nat.zero_le _,by exact di0,St.Sub.refl _⟩ ?_
   rintro j q2 V hV hgb ⟨lej,q9,hsV⟩
   (have q5b:=hgb 5 rfl;have q6b:=hgb 6 rfl;have q8b:=hgb 8 rfl;simp (disch:=first | decide | omega | (simp only [nx];first | done | omega)) only [go_sem,q5,q6,q8] at q5b q6b q8b;clear hgb)
   have hrV:=hrU.sub hsV
   by_cases hj:j<vs.length
   ·have b2:decide ((j:Int)<(vs.length:Int))=true:=decide_eq_true (by omega)
    have w2:IntKind.i64.wrap ((j:Int)+1)=((j+1:Nat):Int):=IntWalk.i64_in _ ⟨by omega,by omega⟩
    have hj':j<(rvs vs).length:=by omega
    have gj:=getD_map encRV (rvs vs) j hj'
    have nj:=rvs_nm hj
    have lj:=(nmAt vs j).2
    (refine dd6 @q5b @q6b @q8b @q9 @hln @b2 ?_)
    refine ddraw_mk 17 (by kernel_rfl) ?_
    (refine dd14 @q5b @q6b @q8b @q9 @hln @gi @gj @hi' @hj' @rv_name @ni @nj @li @lj ?_)
    refine dqgo_at (way_dt hrV hw (by omega) hi hj) ?_
    (refine dd4 @q5b @q6b @q8b @q9 ?_)
    refine DCalls.of_pure (path20_p .no hw (by omega) hi hj) ?_
    (refine dd0 ?_)
    refine DCalls.of_pure (hashes_d .no .no _ _ (by rw [List.length_map];have:=way_len hw hi hj;omega)) ?_
    rw [decide_eq_true (rfl:(wayT vs i j).map (nmAt vs)=(wayT vs i j).map (nmAt vs))]
    (refine dd2 @q9 @w2 ?_)
    exact ⟨hj,_,fun _ _ h=>h,by omega,by exact di0,hsV⟩
   ·obtain rfl:j=vs.length:=by omega
    have b2:decide ((vs.length:Int)<(vs.length:Int))=false:=decide_eq_false (by omega)
    (refine dd11 @q5b @q6b @q8b @q9 @hln @b2 @gi @hi' @rv_name @ni @li ?_)
    refine go_at (out_st hrV hw (by omega) hi).at ?_
    (refine dd4 @q5b @q6b @q8b @q9 ?_)
    refine DCalls.of_pure (out20_p .no hw (by omega) hi) ?_
    have hol:=outW_len hw hi
    have hoo:=outW_lt hi
    generalize outW vs i=oo at *
    (refine dd5 @q5b @q6b @q8b @q9 @bne_self_eq_false.{0} ?_)
    refine dloop_up (fun t=>List.contains [4,14,15,16,95,96,97,98,99,100,101,102,103,104,105,106,107,108,109,110,111,112,113,114,115,116,117,118,119,120,121,122,123,124,125,126,127,128,129,130,131,132,133,134,135,136,137,138,139,140,141] t) (by kernel_rfl) hV oo.length (fun j q V2=>j≤oo.length∧q 14=.v (.int .i64 ((j:Nat):Int))∧V.Sub V2) ⟨Nat.zero_le _,by exact di0,St.Sub.refl _⟩ ?_
    rintro j q3 V2 hV2 hgc ⟨lej2,q14,hsV2⟩
    (have q6c:=hgc 6 rfl;have q8c:=hgc 8 rfl;have q12c:=hgc 12 rfl;have q13c:=hgc 13 rfl;simp (disch:=first | decide | omega | (simp only [nx];first | done | omega)) only [go_sem,q5b,q6b,q8b] at q6c q8c q12c q13c;clear hgc)
    by_cases hj2:j<oo.length
    ·have b3:decide ((j:Int)<(oo.length:Int))=true:=decide_eq_true (by omega)
     have w2:IntKind.i64.wrap ((j:Int)+1)=((j+1:Nat):Int):=IntWalk.i64_in _ ⟨by omega,by omega⟩
     have ge:=getD_map encE oo j hj2
     have gd:=getD_map (edD vs) oo j hj2
     obtain ⟨h1,h2⟩:=hoo _ (List.getElem_mem hj2)
     generalize oo[j]=e at *
     have h1':e.1<(rvs vs).length:=by omega
     have h2':e.2<(rvs vs).length:=by omega
     have g1:=getD_map encRV (rvs vs) e.1 h1'
     have g2:=getD_map encRV (rvs vs) e.2 h2'
     have n1:=rvs_nm h1
     have n2:=rvs_nm h2
     have l1:=(nmAt vs e.1).2
     have l2:=(nmAt vs e.2).2
     have l3:=((rvs vs)[e.2]).frm.2
     (refine dd3 @q13c @q14 @b3 ?_)
     refine ddraw_mk 12 (by kernel_rfl) ?_
     (refine dd7 @q13c @q14 @ge @hj2 @encE.eq_1 @nD.eq_1 @iD.eq_1 ?_)
     refine ddraw_mk 31 (by kernel_rfl) ?_
     have lE:=cl_edD vs e
     have tE:D.agg ((edD vs e).cells.take 65)=edD vs e:=by rw [List.take_of_length_le (Nat.le_of_eq (cl_edD vs e))];rfl
     rcases Nat.eq_zero_or_pos e.2 with e0 | e0
     ·have c1:decide (0<((e.2:Nat):Int))=false:=decide_eq_false (by omega)
      (simp (disch:=first | decide | omega | (simp only [nx];first | done | omega)) only [go_sem,q12c,q13c,q14,q6c,gd,hj2,g1,g2,h1',h2',rv_name,n1,n2,l1,l2,lE,tE,c1];(repeat with_reducible refine aI ?_))
      rw [ed1,ed2]
      refine ⟨⟨ed_len1 _,ed_len2 _ _ _⟩,?_⟩
      have hb:decide (upOf vs e.2=((e.1:Nat):Int))=false:=decide_eq_false (by rw [e0,(hw.up 0 (by omega)).1 rfl];omega)
      refine onVal_neEr _ (edD_ed vs e) (by rw [hb];rfl) ?_
      (refine dd2 @q14 @w2 ?_)
      exact ⟨hj2,_,fun _ _ h=>h,by omega,by exact di0,hsV2⟩
     ·have c1:decide (0<((e.2:Nat):Int))=true:=decide_eq_true (by omega)
      have hf:=frm_eq hw h2 h1 e0
      rw [n1] at hf
      (simp (disch:=first | decide | omega | (simp only [nx];first | done | omega)) only [go_sem,q12c,q13c,q14,q6c,gd,hj2,g1,g2,h1',h2',rv_name,rv_frm,n1,n2,l1,l2,l3,lE,tE,c1,onVal_eqH,hf];(repeat with_reducible refine aI ?_))
      rw [ed1,ed2]
      refine ⟨⟨ed_len1 _,ed_len2 _ _ _⟩,?_⟩
      refine onVal_neEr _ (edD_ed vs e) rfl ?_
      (refine dd2 @q14 @w2 ?_)
      exact ⟨hj2,_,fun _ _ h=>h,by omega,by exact di0,hsV2⟩
    ·obtain rfl:j=oo.length:=by omega
     have b3:decide ((oo.length:Int)<(oo.length:Int))=false:=decide_eq_false (by omega)
     (refine dd5 @q13c @q14 @q8c @b3 @w1 ?_)
     exact ⟨hi,_,fun _ _ h=>h,by omega,by exact di0,hsU.trans (hsV.trans hsV2)⟩
  ·obtain rfl:i=vs.length:=by omega
   have b1:decide ((vs.length:Int)<(vs.length:Int))=false:=decide_eq_false (by omega)
   (refine dd4 @q6 @q8 @hln @b1 ?_)
   refine DCalls.of_pure awake20_d ?_
   (refine dd0 ?_)
   exact ⟨rfl,⟨Nat.zero_le _,fun _ _ h=>by cases h⟩⟩
 ·rw [if_neg hR] at hd
  obtain ⟨rfl,hsT⟩:=hd
  have e0:(((0:Nat):Int) == 0)=true:=by decide
  (refine dd1 @e0 ?_)
  refine DCalls.of_pure awake20_d ?_
  (refine dd0 ?_)
  exact ⟨rfl,⟨Nat.zero_le _,fun _ _ h=>by cases h⟩⟩
end
end Go.Proofs.YtogbklnkpjjkoaaGreatDoor
namespace Go.Proofs.YtogbklnkpjjkoaaGreatDoor
open Go.ChangeShapes Go.WideShapes Go.ChangeAt Go.RowKit
set_option maxRecDepth 100000 in
theorem registryPaths_lifted (os:Os) (started:os.Started) (H:Type) (enc:TypeId × Value→H) :
  ReturnsInHanded {} Tryz.checked os 3 .any (fun w args=>(Rows.registryPathsSpec.pre enc Tryz.prog Tryz.f3 [] false w args∧laidMetH Tryz.prog doorLaid w)∧sizedMet enc Tryz.prog Tryz.f3 (OpenSpec.ofChange Rows.registryPathsSpec) false w args)
   (Rows.registryPathsSpec.post enc Tryz.prog Tryz.f3 false true false false):=by
 refine returnsInHanded_of_change_and (C:=Tryz.checked) (X:=fun w _=>laidMetH Tryz.prog doorLaid w) (fun _ _ _ hh h=>h.of_heap hh) door_own started (by kernel_rfl) Tryz.func3
  (ChangeSpec.witness_at (enc:=enc) (C:=Tryz.checked) (os:=os) (X:=fun w _=>laidMetH Tryz.prog doorLaid w) false (laidWorld os) #[.agg #[.int .i64 0,.slice none 0 0,.slice none 0 0],.slice none 0 0] 8 rfl (by kernel_rfl) (by kernel_rfl) (by kernel_rfl) (by kernel_rfl) (by kernel_rfl) (laidWorld_met os _)) ?_
 intro W base args ds gs before hval0 hW hcnd hsz0 hL _
 have hG:=glob_of_laid hL
 have hval:∀ (j:Nat) t v,Tryz.f3.params[j]? = some t→args[j]? = some v→Value.okWide Tryz.prog W .any base t v:=hval0
 have hsz:(DataW.weightsEach Tryz.prog (Tryz.f3.params.toList++Rows.registryPathsSpec.plain.varTypes Tryz.prog) (ds++gs)).all (·≤reachBytes)=true:=hsz0
 have hW':=hW
 obtain ⟨p,q,hA0,hV,rfl,hfz,hnd⟩:=hW
 have hA:DataW.TrodAll enc Tryz.prog W 0 (fun _=>true) true Tryz.f3.params.toList args.toList ds p:=hA0
 obtain ⟨rfl,rfl⟩:=trodVars_none hV
 rw [Tryz.params3] at hA hval hsz
 have hA1:=hA
 obtain ⟨v0,vs0,d0,ds0,p0,q0,hargs,rfl,rfl,h0,r0⟩:=trodAll_cons hA
 obtain ⟨v1,vs1,d1,ds1,p1,q1,rfl,rfl,rfl,h1,r1⟩:=trodAll_cons r0
 obtain ⟨rfl,rfl,rfl⟩:=trodAll_nil r1
 obtain rfl:args=#[v0,v1]:=by cases args;simp_all
 have z0:Sized Tryz.prog 25 d0:=sized_of_each (j:=0) hsz rfl rfl
 have k0:Value.okWide Tryz.prog W .any base 25 v0:=hval 0 _ _ rfl rfl
 have z1:Sized Tryz.prog 26 d1:=sized_of_each (j:=1) hsz rfl rfl
 have k1:Value.okWide Tryz.prog W .any base 26 v1:=hval 1 _ _ rfl rfl
 clear hA0 hval0 hsz hsz0 hval
 have key:Calls Tryz.prog 3 #[v0,v1] W (Gives (.bool true) W):=by
  obtain ⟨s,cs,rfl,hs⟩:=open_schema h0 z0 k0
  obtain ⟨l,hlo,hll,hl⟩:=open_sps h1 z1 k1
  exact door_gives (vs:=[.agg cs.toArray,v1]) (paths_d s l hs.ok hll hlo) (by simp only [RepL];exact ⟨_,_,rfl,rep_sch (fun b i _=>fix_nilD b i) hs,_,_,rfl,hl _ _ fix_nilD,rfl⟩) (by intro _ _;kernel_rfl) hG
 refine key.mono fun e W' ⟨he,bel⟩=>?_
 subst he
 exact ⟨_,rfl,_,_,_,[],_,[],hW',trodAll_mk1 (shut_bool Tryz.underlying4 _),trodAll_below door_laidOut bel (by kernel_rfl) hA1,rfl,bel.frame _,fun h=>by cases h⟩

theorem registryPaths_row:Rows.RegistryPathsSaid :=
 OpenClaim.holds_of_wide 3 Tryz.f3 rfl rfl rfl rfl rfl rfl rfl ⟨rfl,rfl,rfl,rfl,rfl⟩ rfl rfl rfl rfl rfl (by kernel_rfl) Tryz.func3 (by kernel_rfl)
  (of_decide_eq_true (by kernel_rfl)) (by unfold Func.isWrapper;first | (rw [if_pos (by decide +kernel)];kernel_rfl) | (rw [if_neg (by decide +kernel)];exact ⟨rfl,rfl⟩))
  (fun os started H enc _=>registryPaths_lifted os started H enc)
theorem registryPaths_holds:Rows.RegistryPathsCardSaid :=
 Claim7.holds_tied_plain_at .later [] [.handle] true Rows.registryPathsCard.stood.harness true
  registryPaths_row (fun _ h=>by cases h) (by kernel_rfl) (fun _ h=>by cases h) registryPaths_row_tie rfl ⟨rfl,rfl⟩ (by kernel_rfl) rfl
  (fun f fn hf hfn=>by
   obtain rfl:f=3:=Option.some.inj ((show Tryz.prog.funcNamed "dioptre/dioptrelaw20.RegistryPaths" = some 3 by kernel_rfl).symm.trans hf) |>.symm
   obtain rfl:fn=Tryz.f3:=(Option.some.inj (Tryz.func3.symm.trans hfn)).symm
   exact ⟨by kernel_rfl,fun j t ht=>by
    rw [Tryz.params3] at ht
    have ht':=List.mem_of_getElem? (Array.getElem?_toList ▸ ht)
    simp only [List.mem_cons,List.not_mem_nil,or_false] at ht'
    rcases ht' with rfl | rfl <;> exact (show Tryz.prog.wantsStandIn _=false by kernel_rfl)⟩)
  (by kernel_rfl)
#print axioms registryPaths_holds
end Go.Proofs.YtogbklnkpjjkoaaGreatDoor
