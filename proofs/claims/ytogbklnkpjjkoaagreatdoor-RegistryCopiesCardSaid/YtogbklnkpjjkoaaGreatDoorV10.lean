/- RegistryCopies answers true for any schema and any steps, and leaves its arguments as they were. Conditions: none but the statement's own. -/
import Derived.Test.YtogbklnkpjjkoaaGreatDoorV9
import Derived.LaidEql
import Derived.Stop.Asserts
import Derived.RowKitTokens
import Derived.Test.YtogbklnkpjjkoaaGreatDoorCards
import Derived.Test.YtogbklnkpjjkoaaGreatDoorTie
import Derived.SevenTiedAt
import Derived.RowKit
set_option linter.unusedVariables false
set_option linter.unusedSimpArgs false
namespace Go.Proofs.YtogbklnkpjjkoaaGreatDoor
open Go.RowKit Go.Extern.Stop Go.Stop Go.Extern
/-! The value that a tree without memory stands for. -/
mutual
def D.val:D→Option Value
 | .v x=>some x
 | .ifc t d=>(D.val d).map (Value.iface t ·)
 | .agg cs=>(valL cs).bind fun vs=>bif vs.all (·.oneCell') then some (.agg vs.toArray) else none
 | _=>none
def valL:List D→Option (List Value)
 | []=>some []
 | d::l=>(D.val d).bind fun x=>(valL l).map (x::·)
end
section
variable {P : Program} {w : World} {η : Names} {X : Nat → Nat → Prop}
mutual
theorem rep_val_iff:∀ {d:D} {x:Value},D.val d=some x→∀ {y:Value},Rep P w η X d y↔y=x
 | .v x,_,h,y=>by simp only [D.val,Option.some.injEq] at h;subst h;simp only [Rep]
 | .ifc t d,_,h,y=>by
  simp only [D.val,Option.map_eq_some_iff] at h
  obtain ⟨z,h1,rfl⟩:=h
  simp only [Rep]
  constructor
  ·rintro ⟨u,rfl,hu⟩
   rw [(rep_val_iff h1).1 hu]
  ·rintro rfl
   exact ⟨z,rfl,(rep_val_iff h1).2 rfl⟩
 | .agg cs,_,h,y=>by
  simp only [D.val,Option.bind_eq_some_iff] at h
  obtain ⟨vs,h1,h2⟩:=h
  cases hb:vs.all (·.oneCell') with
  | false=>rw [hb] at h2;cases h2
  | true =>
   rw [hb] at h2
   simp only [cond_true,Option.some.injEq] at h2
   subst h2
   simp only [Rep]
   constructor
   ·rintro ⟨us,rfl,hu,_⟩
    rw [(rep_valL_iff h1).1 hu]
   ·rintro rfl
    exact ⟨vs,rfl,(rep_valL_iff h1).2 rfl,fun u hu=>List.all_eq_true.1 hb u hu⟩
 | .tup _,_,h,_=>by simp [D.val] at h
 | .fn _ _ _,_,h,_=>by simp [D.val] at h
 | .loc _ _,_,h,_=>by simp [D.val] at h
 | .rd _ _,_,h,_=>by simp [D.val] at h
 | .sl _ _,_,h,_=>by simp [D.val] at h
 | .win _ _ _ _,_,h,_=>by simp [D.val] at h
theorem rep_valL_iff:∀ {l:List D} {vs:List Value},valL l=some vs→∀ {us:List Value},RepL P w η X l us↔us=vs
 | [],_,h,us=>by simp only [valL,Option.some.injEq] at h;subst h;simp only [RepL]
 | d::l,_,h,us=>by
  simp only [valL,Option.bind_eq_some_iff,Option.map_eq_some_iff] at h
  obtain ⟨x,h1,xs,h2,rfl⟩:=h
  simp only [RepL]
  constructor
  ·rintro ⟨y,ys,rfl,hy,hys⟩
   rw [(rep_val_iff h1).1 hy,(rep_valL_iff h2).1 hys]
  ·rintro rfl
   exact ⟨x,xs,rfl,(rep_val_iff h1).2 rfl,(rep_valL_iff h2).2 rfl⟩
end
end
section
variable {P : Program} {S : St} {K : D → St → Prop}
theorem dext {g:FuncId} {fn:Func} {e:Array Value→Sem Value} (hf:P.funcs[g]? = some fn) (hname:(fn.name == "runtime.NumGoroutine")=false) (hb:fn.body.isNone=true) (hn:Extern.findNext fn=none) (hx:Extern.find fn=some e) {args:List D}
  (h:∀ base η w vs,Mem P base S η w→RepL P w η (Fix P S η) args vs→∃ d S' η' v w',(e vs.toArray).run P w=.ok v w'∧K d S'∧Rep P w' η' (Fix P S' η') d v∧Goes P base S η w S' η' w'):DCalls P g args S K:=fun base η w vs hM hr=>by
 obtain ⟨d,S',η',v,w',h1,h2,h3,h4⟩:=h base η w vs hM hr
 refine .inr ⟨d,S',η',v,w',?_,h2,h3,h4⟩
 rw [run_callFunc_extern hf hname hb hn hx,h1]
 rfl
theorem dext_pure {g:FuncId} {fn:Func} {e:Array Value→Sem Value} (hf:P.funcs[g]? = some fn) (hname:(fn.name == "runtime.NumGoroutine")=false) (hb:fn.body.isNone=true) (hn:Extern.findNext fn=none) (hx:Extern.find fn=some e) {args:List D} {us:List Value} {r:Value} {d:D}
  (hv:valL args=some us) (h:∀ w,(e us.toArray).run P w=.ok r w) (hd:D.val d=some r) (hk:K d S):DCalls P g args S K :=
 dext hf hname hb hn hx fun base η w vs hM hr=>by
  rw [(rep_valL_iff hv).1 hr]
  exact ⟨d,S,η,r,w,h w,hk,(rep_val_iff hd).2 rfl,Goes.refl hM⟩
theorem dmeth_pure {t:TypeId} {d d':D} {m:String} {g:FuncId} {x r:Value} (hd:D.val d=some x) (hd':D.val d'=some r) (h:∀ w,(method (P.types.size+Made.depth) t x m).run P w=.ok (g,r) w):DMeth P t d m g d':=fun w η X v hr=>by
 rw [(rep_val_iff hd).1 hr]
 exact ⟨r,h w,(rep_val_iff hd').2 rfl⟩
end
abbrev tyV (t:TypeId):Value:=.pointer (some ⟨1,t,none⟩)
abbrev tyD (t:TypeId):D:=.agg [.v (tyV t)]
abbrev rtD (t:TypeId):D:=.ifc 153 (tyD t)
theorem rlm (z:Sem Value) (f:TypeId→Addr→Nat→Nat→Sem Value) (v:Value) :
  ReflectliteValue.method z f #[v]=(do match ← ReflectliteValue.parts v with | none=>z | some (t,a,fl)=>f t a fl (fl % 32)):=rfl
theorem rls (v x:Value):ReflectliteValue.set #[v,x]=(do
  let (some (dst,a,fl),some (src,b,_)):=(← ReflectliteValue.parts v,← ReflectliteValue.parts x)
   | unsupported (.noEntry "extern/(internal/reflectlite.Value).Set.zeroValue")
  if fl / ReflectliteValue.flagAddr % 2 == 0 then unsupported (.noEntry "extern/(internal/reflectlite.Value).Set.unaddressable")
  let val ← loadVar src b
  if ← Rtype.directlyAssignable dst src then storeVar dst a val
  else if ← Rtype.implements dst src then
   if (← Rtype.kind src) == 20 then
    match val with
    | .nilIface=>unsupported (.noEntry "extern/reflectlite: a nil value of one interface type handed on as a value of another")
    | _=>storeVar dst a val
   else storeVar dst a (.iface src val)
  else panicString ("reflectlite.Set: value of type " ++ (← Rtype.spelt src) ++ " is not assignable to type " ++ (← Rtype.spelt dst))
  pure (.tuple #[])):=rfl

section
variable {S : St} {K : D → St → Prop}
theorem unpackPEr (a:Addr) (w:World):(ReflectliteValue.unpack (.iface 114 (.pointer (some a)))).run Tryz.prog w=.ok (.agg #[tyV 114,.pointer (some ⟨w.heap.size,0,none⟩),.int .u64 150]) (w.alloc (.cells #[.pointer (some a)] 114)):=by kernel_rfl
theorem rlValueOfPEr {k off:Nat} (h:K (.agg [.v (tyV 114),.loc S.next 0,.v (.int .u64 150)]) (S.add (.box 114 [.loc k off]))):DCalls Tryz.prog 59 [.ifc 114 (.loc k off)] S K :=
 dext (e:=fun args=>ReflectliteValue.unpack (args.getD 0 (.tuple #[]))) Tryz.func59 (by kernel_rfl) (by kernel_rfl) (by kernel_rfl) (by kernel_rfl) fun base η w vs hM hr=>by
  simp only [RepL,Rep] at hr
  obtain ⟨_,_,rfl,⟨_,rfl,b,hb,rfl⟩,rfl⟩:=hr
  have G:=goes_name hM (.box 114 [.loc k off]) #[.pointer (some ⟨b,off,none⟩)] 114 (.inl ⟨_,[.pointer (some ⟨b,off,none⟩)],rfl,rfl,by simp only [RepL,Rep];exact ⟨_,_,rfl,⟨b,hb,rfl⟩,rfl⟩,fun x hx=>by rw [List.mem_singleton] at hx;subst hx;rfl⟩)
  refine ⟨_,_,_,_,_,unpackPEr _ w,h,?_,G⟩
  simp only [Rep,RepL]
  exact ⟨[_,_,_],rfl,⟨_,_,rfl,rfl,_,_,rfl,⟨w.heap.size,by simp only [Names.add,↓reduceIte],rfl⟩,_,_,rfl,rfl,rfl⟩,fun x hx=>by simp only [List.mem_cons,List.not_mem_nil,or_false] at hx;rcases hx with rfl | rfl | rfl <;> rfl⟩
theorem typePEr (a:Addr) (w:World):(ReflectliteValue.methodAny (ReflectliteValue.valueError "reflectlite.Value.Type" 0) (fun t _ _ _=>ReflectliteType.toType t) #[.agg #[tyV 114,.pointer (some a),.int .u64 150]]).run Tryz.prog w=.ok (.iface 153 (.agg #[tyV 114])) w:=by kernel_rfl
theorem rlTypePEr {k off:Nat} (h:K (rtD 114) S):DCalls Tryz.prog 60 [.agg [.v (tyV 114),.loc k off,.v (.int .u64 150)]] S K :=
 dext (e:=ReflectliteValue.methodAny (ReflectliteValue.valueError "reflectlite.Value.Type" 0) (fun t _ _ _=>ReflectliteType.toType t)) Tryz.func60 (by kernel_rfl) (by kernel_rfl) (by kernel_rfl) (by kernel_rfl) fun base η w vs hM hr=>by
  simp only [RepL,Rep] at hr
  obtain ⟨_,_,rfl,⟨_,rfl,⟨_,_,rfl,rfl,_,_,rfl,⟨b,hb,rfl⟩,_,_,rfl,rfl,rfl⟩,_⟩,rfl⟩:=hr
  exact ⟨_,S,η,_,w,typePEr _ w,h,(rep_val_iff (d:=rtD 114) rfl).2 rfl,Goes.refl hM⟩
theorem partsPEr (a:Addr) (w:World):(ReflectliteValue.parts (.agg #[tyV 114,.pointer (some a),.int .u64 150])).run Tryz.prog w=.ok (some (114,a,150)) w:=by kernel_rfl
theorem rlIsNilPEr {b k off:Nat} (hb:S.ob b=some (.box 114 [.loc k off])) (h:K (.v (.bool false)) S):DCalls Tryz.prog 61 [.agg [.v (tyV 114),.loc b 0,.v (.int .u64 150)]] S K :=
 dext (e:=ReflectliteValue.method (ReflectliteValue.valueError "reflectlite.Value.IsNil" 0) ReflectliteValue.isNil) Tryz.func61 (by kernel_rfl) (by kernel_rfl) (by kernel_rfl) (by kernel_rfl) fun base η w vs hM hr=>by
  simp only [RepL,Rep] at hr
  obtain ⟨_,_,rfl,⟨_,rfl,⟨_,_,rfl,rfl,_,_,rfl,⟨q,hq,rfl⟩,_,_,rfl,rfl,rfl⟩,_⟩,rfl⟩:=hr
  obtain ⟨us,g1,g2,g3⟩:=hM.box b _ _ q hb hq
  simp only [RepL,Rep] at g2
  obtain ⟨_,_,rfl,⟨p,hp,rfl⟩,rfl⟩:=g2
  have ha:w.cell? ⟨q,0,none⟩=some (.pointer (some ⟨p,off,none⟩)):=by simp [World.cell?,g1]
  refine ⟨_,S,η,.bool false,w,?_,h,by simp only [Rep],Goes.refl hM⟩
  rw [rlm]
  simp only [Sem.run_bind,partsPEr,Result.andThen]
  simp [ReflectliteValue.isNil,loadVar,isAgg,underlying,Tryz.underlying114,ha,Result.andThen]
theorem elemOfPEr (w:World):(Rtype.elem? 114).run Tryz.prog w=.ok (some 104) w:=by kernel_rfl
theorem mkPEr (p:Addr) (w:World):(ReflectliteValue.mk 104 p ReflectliteValue.flagAddr).run Tryz.prog w=.ok (.agg #[tyV 104,.pointer (some p),.int .u64 386]) w:=by kernel_rfl
theorem rlElemPEr {b k off:Nat} (hb:S.ob b=some (.box 114 [.loc k off])) (h:K (.agg [.v (tyV 104),.loc k off,.v (.int .u64 386)]) S):DCalls Tryz.prog 87 [.agg [.v (tyV 114),.loc b 0,.v (.int .u64 150)]] S K :=
 dext (e:=ReflectliteValue.method (ReflectliteValue.valueError "reflectlite.Value.Elem" 0) ReflectliteValue.elem) Tryz.func87 (by kernel_rfl) (by kernel_rfl) (by kernel_rfl) (by kernel_rfl) fun base η w vs hM hr=>by
  simp only [RepL,Rep] at hr
  obtain ⟨_,_,rfl,⟨_,rfl,⟨_,_,rfl,rfl,_,_,rfl,⟨q,hq,rfl⟩,_,_,rfl,rfl,rfl⟩,_⟩,rfl⟩:=hr
  obtain ⟨us,g1,g2,g3⟩:=hM.box b _ _ q hb hq
  simp only [RepL,Rep] at g2
  obtain ⟨_,_,rfl,⟨p,hp,rfl⟩,rfl⟩:=g2
  have ha:w.cell? ⟨q,0,none⟩=some (.pointer (some ⟨p,off,none⟩)):=by simp [World.cell?,g1]
  refine ⟨_,S,η,.agg #[tyV 104,.pointer (some ⟨p,off,none⟩),.int .u64 386],w,?_,h,?_,Goes.refl hM⟩
  ·rw [rlm]
   simp only [Sem.run_bind,partsPEr,Result.andThen]
   simp [ReflectliteValue.elem,loadVar,isAgg,underlying,Tryz.underlying114,ha,Result.andThen,elemOfPEr,mkPEr]
  ·simp only [Rep,RepL]
   exact ⟨[_,_,_],rfl,⟨_,_,rfl,rfl,_,_,rfl,⟨p,hp,rfl⟩,_,_,rfl,rfl,rfl⟩,fun x hx=>by simp only [List.mem_cons,List.not_mem_nil,or_false] at hx;rcases hx with rfl | rfl | rfl <;> rfl⟩
theorem methKindPEr:DMeth Tryz.prog 153 (tyD 114) "Kind" 193 (.v (tyV 114)):=dmeth_pure rfl rfl fun w=>by kernel_rfl
theorem methKindEr:DMeth Tryz.prog 153 (tyD 104) "Kind" 193 (.v (tyV 104)):=dmeth_pure rfl rfl fun w=>by kernel_rfl
theorem rlKindPEr (h:K (.v (.int .u8 22)) S):DCalls Tryz.prog 193 [.v (tyV 114)] S K :=
 dext_pure (e:=ReflectliteType.abiMethod fun t=>do pure (.int .u8 (← Rtype.kind t))) Tryz.func193 (by kernel_rfl) (by kernel_rfl) (by kernel_rfl) (by kernel_rfl) (r:=.int .u8 22) rfl (fun w=>by kernel_rfl) rfl h
theorem rlKindEr (h:K (.v (.int .u8 2)) S):DCalls Tryz.prog 193 [.v (tyV 104)] S K :=
 dext_pure (e:=ReflectliteType.abiMethod fun t=>do pure (.int .u8 (← Rtype.kind t))) Tryz.func193 (by kernel_rfl) (by kernel_rfl) (by kernel_rfl) (by kernel_rfl) (r:=.int .u8 2) rfl (fun w=>by kernel_rfl) rfl h
theorem methElemPEr:DMeth Tryz.prog 153 (tyD 114) "Elem" 203 (tyD 114):=dmeth_pure rfl rfl fun w=>by kernel_rfl
theorem rlTElemPEr (h:K (rtD 104) S):DCalls Tryz.prog 203 [tyD 114] S K :=
 dext_pure (e:=ReflectliteType.method ReflectliteType.elem) Tryz.func203 (by kernel_rfl) (by kernel_rfl) (by kernel_rfl) (by kernel_rfl) (r:=.iface 153 (.agg #[tyV 104])) rfl (fun w=>by kernel_rfl) rfl h
theorem methImplEr:DMeth Tryz.prog 153 (tyD 104) "Implements" 204 (tyD 104):=dmeth_pure rfl rfl fun w=>by kernel_rfl
theorem rlImplEr (h:K (.v (.bool true)) S):DCalls Tryz.prog 204 [tyD 104,rtD 66] S K :=
 dext_pure (e:=ReflectliteType.relation "Implements" ReflectliteType.implements_) Tryz.func204 (by kernel_rfl) (by kernel_rfl) (by kernel_rfl) (by kernel_rfl) (r:=.bool true) rfl (fun w=>by kernel_rfl) rfl h
theorem methAsgEr:DMeth Tryz.prog 153 (tyD 104) "AssignableTo" 201 (tyD 104):=dmeth_pure rfl rfl fun w=>by kernel_rfl
theorem rlAsgEr (h:K (.v (.bool true)) S):DCalls Tryz.prog 201 [tyD 104,rtD 104] S K :=
 dext_pure (e:=ReflectliteType.relation "AssignableTo" ReflectliteType.assignableTo) Tryz.func201 (by kernel_rfl) (by kernel_rfl) (by kernel_rfl) (by kernel_rfl) (r:=.bool true) rfl (fun w=>by kernel_rfl) rfl h
theorem typeOfEr (x:Value) (w:World):(ReflectliteType.typeOf #[.iface 104 x]).run Tryz.prog w=.ok (.iface 153 (.agg #[tyV 104])) w:=by kernel_rfl
theorem rlTypeOfEr {d:D} (h:K (rtD 104) S):DCalls Tryz.prog 86 [.ifc 104 d] S K :=
 dext (e:=ReflectliteType.typeOf) Tryz.func86 (by kernel_rfl) (by kernel_rfl) (by kernel_rfl) (by kernel_rfl) fun base η w vs hM hr=>by
  simp only [RepL,Rep] at hr
  obtain ⟨_,_,rfl,⟨x,rfl,_⟩,rfl⟩:=hr
  exact ⟨_,S,η,_,w,typeOfEr x w,h,(rep_val_iff (d:=rtD 104) rfl).2 rfl,Goes.refl hM⟩
end
abbrev erD (n:Int):D:=.ifc 104 (.v (.int .i64 n))
section
variable {P : Program} {S : St} {K : D → St → Prop}
end
section
variable {S : St} {K : D → St → Prop} {u : D}
end
theorem unpackEr (n:Int) (w:World):(ReflectliteValue.unpack (.iface 104 (.int .i64 n))).run Tryz.prog w=.ok (.agg #[tyV 104,.pointer (some ⟨w.heap.size,0,none⟩),.int .u64 130]) (w.alloc (.cells #[.int .i64 n] 104)):=by kernel_rfl
section
variable {S : St} {K : D → St → Prop}
theorem rlValueOfEr {n:Int} (h:K (.agg [.v (tyV 104),.loc S.next 0,.v (.int .u64 130)]) (S.add (.box 104 [.v (.int .i64 n)]))):DCalls Tryz.prog 59 [erD n] S K :=
 dext (e:=fun args=>ReflectliteValue.unpack (args.getD 0 (.tuple #[]))) Tryz.func59 (by kernel_rfl) (by kernel_rfl) (by kernel_rfl) (by kernel_rfl) fun base η w vs hM hr=>by
  simp only [RepL,Rep] at hr
  obtain ⟨_,_,rfl,⟨_,rfl,rfl⟩,rfl⟩:=hr
  have G:=goes_name hM (.box 104 [.v (.int .i64 n)]) #[.int .i64 n] 104 (.inl ⟨_,[.int .i64 n],rfl,rfl,by simp only [RepL,Rep];exact ⟨_,_,rfl,rfl,rfl⟩,fun x hx=>by rw [List.mem_singleton] at hx;subst hx;rfl⟩)
  refine ⟨_,_,_,_,_,unpackEr _ w,h,?_,G⟩
  simp only [Rep,RepL]
  exact ⟨[_,_,_],rfl,⟨_,_,rfl,rfl,_,_,rfl,⟨w.heap.size,by simp only [Names.add,↓reduceIte],rfl⟩,_,_,rfl,rfl,rfl⟩,fun x hx=>by simp only [List.mem_cons,List.not_mem_nil,or_false] at hx;rcases hx with rfl | rfl | rfl <;> rfl⟩
end

theorem partsEra (a:Addr) (w:World):(ReflectliteValue.parts (.agg #[tyV 104,.pointer (some a),.int .u64 386])).run Tryz.prog w=.ok (some (104,a,386)) w:=by kernel_rfl
theorem partsEr (a:Addr) (w:World):(ReflectliteValue.parts (.agg #[tyV 104,.pointer (some a),.int .u64 130])).run Tryz.prog w=.ok (some (104,a,130)) w:=by kernel_rfl
theorem directEr (w:World):(Rtype.directlyAssignable 104 104).run Tryz.prog w=.ok true w:=by kernel_rfl
theorem sizeEr (w:World):(sizeOf 104).run Tryz.prog w=.ok 1 w:=by kernel_rfl
theorem setEr {b a:Nat} {x:Value} {n:Int} {W:World} (hb:W.heap[b]? = some (.cells [x].toArray 104 (0,0))) (ha:W.cell? ⟨a,0,none⟩=some (.int .i64 n)) :
  (ReflectliteValue.set #[.agg #[tyV 104,.pointer (some ⟨b,0,none⟩),.int .u64 386],.agg #[tyV 104,.pointer (some ⟨a,0,none⟩),.int .u64 130]]).run Tryz.prog W=.ok (.tuple #[]) (W.setRow b [.int .i64 n].toArray):=by
 have q:=run_storeCells_at Tryz.prog b 0 104 [.int .i64 n] 0 [x].toArray W hb (by simp) (by simp [Value.oneCell'])
 rw [rls]
 simp only [Sem.run_bind,partsEra,partsEr,Result.andThen]
 simp [ReflectliteValue.flagAddr,loadVar,isAgg,underlying,Tryz.underlying104,ha,Result.andThen,directEr,storeVar,sizeEr,Value.cells] at q ⊢
 simp [q]
theorem rlSetEr {S:St} {K:D→St→Prop} {a b:Nat} {d0:D} {n:Int} (hb:S.ob b=some (.box 104 [d0])) (ha:S.ob a=some (.box 104 [.v (.int .i64 n)])) (h:K (.tup []) (S.set b (.box 104 [.v (.int .i64 n)]))) :
  DCalls Tryz.prog 88 [.agg [.v (tyV 104),.loc b 0,.v (.int .u64 386)],.agg [.v (tyV 104),.loc a 0,.v (.int .u64 130)]] S K :=
 dext (e:=ReflectliteValue.set) Tryz.func88 (by kernel_rfl) (by kernel_rfl) (by kernel_rfl) (by kernel_rfl) fun base η w vs hM hr=>by
  simp only [RepL,Rep] at hr
  obtain ⟨_,_,rfl,⟨_,rfl,⟨_,_,rfl,rfl,_,_,rfl,⟨q,hq,rfl⟩,_,_,rfl,rfl,rfl⟩,_⟩,_,_,rfl,⟨_,rfl,⟨_,_,rfl,rfl,_,_,rfl,⟨p,hp,rfl⟩,_,_,rfl,rfl,rfl⟩,_⟩,rfl⟩:=hr
  obtain ⟨us,g1,g2,g3⟩:=hM.box b _ _ q hb hq
  obtain ⟨us',k1,k2,k3⟩:=hM.box a _ _ p ha hp
  simp only [RepL] at g2
  obtain ⟨x,_,rfl,hx,rfl⟩:=g2
  simp only [RepL] at k2
  obtain ⟨y,_,rfl,hy,rfl⟩:=k2
  have hy0:=hy
  simp only [Rep] at hy
  subst hy
  have hc:w.cell? ⟨p,0,none⟩=some (.int .i64 n):=by simp [World.cell?,k1]
  have G:=goes_set hM (cs':=[.v (.int .i64 n)]) (vs':=[_]) hb hq rfl (by simp only [RepL];exact ⟨_,_,rfl,hy0,rfl⟩) k3
  exact ⟨_,_,_,_,_,setEr g1 hc,h,by simp only [Rep,RepL];exact ⟨[],rfl,rfl⟩,G⟩

end Go.Proofs.YtogbklnkpjjkoaaGreatDoor
namespace Go.Proofs.YtogbklnkpjjkoaaGreatDoor
open Go.RowKit
theorem bnil_eq0 (k:Nat):dbin Tryz.prog .eql 66 (.tmp k) (.const .nilIface) (.v .nilIface) (.v .nilIface)=some (True,.v (.bool true)):=by kernel_rfl
set_option maxRecDepth 200000 in
set_option maxHeartbeats 4000000 in
theorem as0Walk {S:St} {n:Int} {x0:D} {kb kc:Nat} {K:D→St→Prop} (hk:S.ob kc=some (.box 104 [x0])) (hb:S.ob kb=some (.box 114 [.loc kc 0]))
  (h:∀ T,S.next≤T.next→T.WF→(∀ j o,j ≠ kc→S.ob j=some o→T.ob j=some o)→T.ob kc=some (.box 104 [.v (.int .i64 n)])→K (.v (.bool true)) T) :
  DCalls Tryz.prog 62 [erD n,.ifc 114 (.loc kc 0),.agg [.v (tyV 114),.loc kb 0,.v (.int .u64 150)],rtD 104] S K:=by
 refine dcalls_inline mixed Tryz.func62 rfl (fun _ _=>by kernel_rfl) (rs:=[.tmp 8]) rfl (by kernel_rfl) (fun hS=>?_)
 (refine dd0 ?_)
 (refine dloop_st (fun t=>List.contains [0,8,9,10,11,12,14,15,16,17,18,19,20,21,22,23,24,25,26,27,28,29,30,31,32,33,34,35,36,37,38,39,40,41,42,43,44,45,46,47,48,49,50,51,52,53,54,55,56,57,58,59,60,61] t) (by kernel_rfl) ?_ (0) (fun i f=>i≤0∧f 0=erD n∧f 8=.v (.bool false)) ?_ ?_;(exact wfA);(exact ⟨(by omega),(by exact di0),(by exact di0)⟩);intro i g tn hn hT hg hI;obtain ⟨le,q0,q8⟩:=hI;have q1:=hg 1 rfl;have q3:=hg 3 rfl;have q6:=hg 6 rfl;simp (disch:=first | decide | omega | (simp only [nx];first | done | omega)) only [go_sem] at q1 q3 q6;clear hg;have hn':=hn;try simp only [add_next,set_next,grow_next,leave_next,drop_next] at hn')
 have hB:∀ j o,S.ob j=some o→(St.mk tn (S.add (.box 128 [.v (tyV 114),.loc kb 0,.v (.int .u64 150)])).ob).ob j=some o:=fun j o ho=>by
  have hkl:=hS.lt ho
  show (if j=S.next then _ else S.ob j)=_
  rw [if_neg (by omega),ho]
 (refine dd4 @q0 @q1 @q3 @q6 ?_)
 refine rlTypeOfEr ?_
 (refine dd4 @q0 @q1 @q3 @q6 ?_)
 refine dinvoke_mk methAsgEr (rlAsgEr ?_)
 (refine dd4 @q0 @q1 @q3 @q6 ?_)
 refine rlElemPEr (hB _ _ hb) ?_
 (refine dd4 @q0 @q1 @q3 @q6 ?_)
 refine rlValueOfEr ?_
 (refine dd4 @q0 @q1 @q3 @q6 ?_)
 have hkc:=hS.lt hk
 have hkn:kc ≠ tn:=by omega
 refine rlSetEr (d0:=x0) (n:=n) ?_ ?_ ?_
 ·show (if kc=tn then _ else _)=_
  rw [if_neg hkn];exact hB _ _ hk
 ·show (if tn=tn then _ else _)=_
  rw [if_pos rfl]
 (refine dd4 @q0 @q1 @q3 @q6 ?_)
 refine h _ ?_ ?_ (fun j o hj ho=>?_) ?_
 ·show S.next≤tn+1
  omega
 ·exact wfA
 ·show (if j=kc then _ else if j=tn then _ else _)=_
  have:=hS.lt ho
  rw [if_neg hj,if_neg (by omega)];exact hB _ _ ho
 ·show (if kc=kc then _ else _)=_
  rw [if_pos rfl]
set_option maxRecDepth 200000 in
set_option maxHeartbeats 4000000 in
theorem as0 {S:St} {n:Int} {x0:D} {kc:Nat} {K:D→St→Prop} (hk:S.ob kc=some (.box 104 [x0]))
  (h:∀ T,S.next≤T.next→T.WF→(∀ j o,j ≠ kc→S.ob j=some o→T.ob j=some o)→T.ob kc=some (.box 104 [.v (.int .i64 n)])→K (.v (.bool true)) T) :
  DCalls Tryz.prog 48 [erD n,.ifc 114 (.loc kc 0)] S K:=by
 refine dcalls_inline mixed Tryz.func48 rfl (fun _ _=>by kernel_rfl) (rs:=[.tmp 4]) rfl (by kernel_rfl) (fun hS=>?_)
 unfold erD
 (refine dd0 ?_)
 refine rlValueOfPEr ?_
 (refine dd0 ?_)
 refine rlTypePEr ?_
 (refine dd0 ?_)
 have k22:((22:Int) != 22)=false:=by decide
 have k20:((2:Int) != 20)=true:=by decide
 refine dinvoke_mk methKindPEr (rlKindPEr ?_)
 (refine dd1 @k22 ?_)
 refine rlIsNilPEr (k:=kc) (off:=0) ?_ ?_
 ·exact di0
 (refine dd1 @k22 ?_)
 refine dinvoke_mk methElemPEr (rlTElemPEr ?_)
 (refine dd0 ?_)
 refine dinvoke_mk methKindEr (rlKindEr ?_)
 (refine dd1 @k20 ?_)
 refine dinvoke_mk methImplEr (rlImplEr ?_)
 (refine dd0 ?_)
 have hkc:=hS.lt hk
 have hB:∀ j o,S.ob j=some o→(((S.add (.box 114 [.loc kc 0])).add (.box 128 [.v (.pointer none),.v (.pointer none),.v (.int .u64 0)])).set (S.next+1) (.box 128 [.v (tyV 114),.loc S.next 0,.v (.int .u64 150)])).ob j=some o:=fun j o ho=>by
  have hkl:=hS.lt ho
  show (if j=S.next+1 then _ else if j=S.next+1 then _ else if j=S.next then _ else S.ob j)=_
  rw [if_neg (by omega),if_neg (by omega),if_neg (by omega),ho]
 refine as0Walk (hB _ _ hk) (kb:=S.next) ?_ fun T t1 t2 t3 t4=>?_
 ·exact di0
 (refine dd0 ?_)
 exact h T (by have:S.next+1+1≤T.next:=t1;omega) t2 (fun j o hj ho=>t3 j o hj (hB _ _ ho)) t4
theorem code0_nil:DPure Tryz.prog 30 [.v .nilIface] (.v (.int .i64 0)):=by
 refine dpure_of_dwp mixed Tryz.func30 rfl (fun _ _=>by kernel_rfl) (rs:=[.tmp 2]) rfl (by kernel_rfl) trivial (fun S hS=>?_)
 (refine dd1 @bnil_eq0 ?_)
 refine pendL ?_
 rfl
theorem code0_er (n:Int):DPure Tryz.prog 30 [erD n] (.v (.int .i64 n)):=by
 refine dpure_of_dwp mixed Tryz.func30 rfl (fun _ _=>by kernel_rfl) (rs:=[.tmp 2]) rfl (by kernel_rfl) trivial (fun S hS=>?_)
 unfold erD
 (refine dd0 ?_)
 refine as0 (x0:=.v (.int .i64 0)) ?_ fun T t1 t2 t3 t4=>?_
 ·show (if S.next=S.next then _ else _)=_
  rw [if_pos rfl]
 (refine dd1 @t4 ?_)
 have hsub:S.Sub T:=⟨by have:S.next+1≤T.next:=t1;omega,fun j o ho=>t3 j o (by have:=hS.lt ho;omega) (by have:=hS.lt ho;show (if j=S.next then _ else _)=_;rw [if_neg (by omega),ho])⟩
 refine pendL ?_
 rfl
def fromN (vs:List DVer) (b:UInt8):H32:=if b.toNat<250 then nmAt vs (b.toNat % vs.length) else rgH 98
noncomputable def stepR (vs:List DVer) (x:DRst):List DVer × Int:=addR vs x.name (fromN vs x.frm) x.lens (tgS x.lens)
noncomputable def mdV (s:DSch) (ls:List DRst) (i:Nat):List DVer:=(ls.take i).foldl (fun vs x=>(stepR vs x).1) [rootV (rgH 99) s]
theorem mdV_succ {s:DSch} {ls:List DRst} {i:Nat} (h:i<ls.length):mdV s ls (i+1)=(stepR (mdV s ls i) ls[i]).1:=by
 rw [mdV,List.take_succ_eq_append_getElem h,List.foldl_append];rfl
theorem stepR_len (vs:List DVer) (x:DRst):(stepR vs x).1.length≤vs.length+1:=by
 rcases addR_cases vs x.name (fromN vs x.frm) x.lens (tgS x.lens) with ⟨e,_⟩ | ⟨k,hk,_,_,_,e⟩
 ·rw [stepR,e];omega
 ·rw [stepR,e];simp
theorem mdV_len (s:DSch) (ls:List DRst):∀ i,i≤ls.length→(mdV s ls i).length≤i+1
 | 0,_=>Nat.le_refl _
 | i+1,h=>by
  have ih:=mdV_len s ls i (by omega)
  have:=stepR_len (mdV s ls i) (ls[i]'(by omega))
  rw [mdV_succ (by omega)]
  omega
theorem mdV_ok {s:DSch} {ls:List DRst} (hs:okS s) (hr:rightS 5 s=true) (hl:∀ x∈ls,okL x.lens∧roomL 8 x.lens=true):∀ i,i≤ls.length→OkR (mdV s ls i)
 | 0,_=>okR_root hs hr
 | i+1,h=>by
  have ih:=mdV_ok hs hr hl i (by omega)
  have hx:=hl _ (List.getElem_mem (show i<ls.length by omega))
  rw [mdV_succ (by omega)]
  exact addR_ok ih _ _ _ hx.1 hx.2
theorem codeO (n:Int):DPure Tryz.prog 30 [erO' n] (.v (.int .i64 n)):=by
 unfold erO'
 by_cases h:n=0
 ·rw [if_pos h,h];exact code0_nil
 ·rw [if_neg h];exact code0_er n
attribute [local go_sem] cl_Sp okCell_Sp cl_RV okCell_RV
def MadeK (s:DSch) (ls:List DRst) (S:St) (d:D) (T:St):Prop :=
 if s.kind=5∧rightS 5 s=true then ∃ k F,d=.tup [.loc k 0,.sl .no ((rvs (mdV s ls ls.length)).map encRV),.v (.bool true)]∧RegAt k F (mdV s ls ls.length) T∧(∀ q,F q→S.next≤q)∧S.Sub T
 else d=.tup [.v (.pointer none),.sl .full [],.v (.bool true)]∧S.Sub T
section
set_option maxRecDepth 200000
set_option maxHeartbeats 8000000
theorem made_a {S:St} (s:DSch) (own:Own) (ls:List DRst) (hs:okS s) (hw:s.weight≤1000000) (hl:ls.length≤14) (hok:∀ x∈ls,okL x.lens∧roomL 8 x.lens=true) :
  DCalls Tryz.prog 11 [encS s,.sl own (ls.map encSp)] S (MadeK s ls S):=by
 refine dcalls_inline mixed Tryz.func11 rfl (fun _ _=>by kernel_rfl) (rs:=[.tmp 4,.tmp 5,.tmp 6]) rfl (by kernel_rfl) (fun hS=>?_)
 (refine dd1 @placeR ?_)
 generalize hX:St.set (St.add (St.add S _) _) _ _=S1
 have hs1:S.Sub S1:=by rw [← hX];exact (((St.Sub.refl S).add hS _).add hS _).set hS (by omega) _
 have hW1:S1.WF:=by rw [← hX];exact ((hS.add _).add _).set (by show S.next+1<S.next+1+1;omega) _
 have hn1:S1.next=S.next+2:=by rw [← hX];rfl
 have b2:S1.ob S.next=some (.box 25 (encS s).cells):=by rw [← hX];exact di0
 have b7:S1.ob (S.next+1)=some (.box 39 ((rgH 99).1.map bD)):=by rw [← hX];exact di0
 clear hX
 have l99:=(rgH 99).2
 have hsd:=DSch.depth_weight s.depth s (Nat.le_refl _)
 refine dcalls_argEq (args':=[encH (rgH 99),encS s]) (by simp only [frzL,frz_encS];rfl) ?_
 refine DCalls.mono (DCalls.wf (new_a (rgH 99) s hs hw)) ?_
 rintro d T0 ⟨⟨hd,hs0⟩,hT0⟩
 have c2:=hs0.ob _ _ b2
 have c7:=hs0.ob _ _ b7
 have e20:(s.kind == 5 && rightS 5 s)=decide (s.kind=5∧rightS 5 s=true):=by
  rw [Bool.eq_iff_iff,Bool.and_eq_true,beq_iff_eq,decide_eq_true_eq]
 by_cases hR:s.kind=5∧rightS 5 s=true
 ·rw [if_pos hR] at hd
  obtain ⟨k,F0,rfl,hr0,hF0⟩:=hd
  rw [decide_eq_true hR] at e20
  (refine dd1 @c2 ?_)
  refine DCalls.of_pure (right20_d s hs (by omega)) ?_
  rw [e20]
  (refine dd4 @rnil_ne @c2 @c7 @l99 ?_)
  refine DCalls.of_pure (new20_d (rgH 99) s) ?_
  (refine dd0 ?_)
  have hsT0:=hs1.trans hs0
  have hn0:=hs0.next
  have hmok:=mdV_ok (ls:=ls) hs hR.2 hok
  refine dloop_up (fun t=>List.contains [4,5,6,10,11,12,13,14,15,16,43,44,45,46,47,48,49,50,51,52,53,54,55,56,57,58,59,60,61,62,63,64,65,66,67,68,69,70,71,72,73,74,75,76,77,78,79,80,81,82,83,84,85,86,87,88,89,90,91,92,93,94,95,96,97,98,99,100,101] t) (by kernel_rfl) hT0 ls.length (fun i q T=>i≤ls.length∧q 11=.v (.int .i64 ((i:Nat):Int))∧q 10=.sl .no ((rvs (mdV s ls i)).map encRV)∧S.Sub T∧S1.next≤T.next∧∃ F,RegAt k F (mdV s ls i) T∧∀ x,F x→S1.next≤x)
   ⟨Nat.zero_le _,by exact di0,by simp (disch:=first | decide | omega | (simp only [nx];first | done | omega)) only [go_sem];rfl,hsT0,hn0,F0,hr0,hF0⟩ ?_
  rintro i q T hT hg ⟨le,q11,q10,hsT,hnT,F,hrT,hF⟩
  (have q1:=hg 1 rfl;have q8:=hg 8 rfl;simp (disch:=first | decide | omega | (simp only [nx];first | done | omega)) only [go_sem] at q1 q8;clear hg)
  by_cases hlt:i<ls.length
  ·have d1:decide ((i:Int)<(ls.length:Int))=true:=decide_eq_true (by omega)
   have w1:IntKind.i64.wrap ((i:Int)+1)=((i+1:Nat):Int):=IntWalk.i64_in _ ⟨by omega,by omega⟩
   have hget:=getD_map encSp ls i hlt
   have hb:bD ls[i].frm=.v (.int .u8 ((ls[i].frm.toNat:Nat):Int)):=rfl
   have hfl:ls[i].frm.toNat<256:=UInt8.toNat_lt _
   have w2:IntKind.i64.wrap ((ls[i].frm.toNat:Nat):Int)=((ls[i].frm.toNat:Nat):Int):=IntWalk.i64_in _ ⟨by omega,by omega⟩
   (refine dd11 @q1 @q11 @d1 @placeR @hget @hlt @sp_frm @hb @w2 @cv_u8 @Option.map_some.{0,0} ?_)
   generalize hX:St.set (St.add T _) _ _=T1
   have h01:T.Sub T1:=by rw [← hX];exact ((St.Sub.refl T).add hT _).set hT (Nat.le_refl _) _
   have hW1':T1.WF:=by rw [← hX];exact (hT.add _).set (Nat.lt_succ_self _) _
   have b12:T1.ob T.next=some (.box 39 ((rgH 98).1.map bD)):=by rw [← hX];exact di0
   clear hX
   have ovs:=hmok i (by omega)
   have lvs:=mdV_len s ls i (by omega)
   have pvs:=ovs.pos
   have e1:=mdV_succ (s:=s) hlt
   generalize mdV s ls i=vs at *
   refine dIf_cut (fun f' T'=>f' 1=.sl own (ls.map encSp)∧f' 8=.loc k 0∧f' 10=.sl .no ((rvs vs).map encRV)∧f' 11=.v (.int .i64 ((i:Nat):Int))∧f' 12=.loc T.next 0∧T'.WF∧T.Sub T'∧T'.ob T.next=some (.box 39 ((fromN vs ls[i].frm).1.map bD))) ?_ ?_
   ·by_cases h250:ls[i].frm.toNat<250
    ·have d2:decide (((ls[i].frm.toNat:Nat):Int)<250)=true:=decide_eq_true (by omega)
     have hm:ls[i].frm.toNat % vs.length<vs.length:=Nat.mod_lt _ pvs
     have hm2:ls[i].frm.toNat % vs.length<(rvs vs).length:=by rw [rvs_len];exact hm
     have hg2:=getD_map encRV (rvs vs) _ hm2
     have hfr:fromN vs ls[i].frm=nmAt vs (ls[i].frm.toNat % vs.length):=by rw [fromN,if_pos h250]
     have hnm:(rvs vs)[ls[i].frm.toNat % vs.length].name=nmAt vs (ls[i].frm.toNat % vs.length):=by rw [rvs_get hm,nmAt_lt hm];rfl
     have hrem:∀ {x y:Operand},dbin Tryz.prog .rem 3 x y (.v (.int .i64 ((ls[i].frm.toNat:Nat):Int))) (.v (.int .i64 ((vs.length:Nat):Int)))=some (True,.v (.int .i64 ((ls[i].frm.toNat % vs.length:Nat):Int))):=fun {x y}=>bin_rem _ _ _ (by omega)
     have hln:=rvs_len vs
     have l32:=((rvs vs)[ls[i].frm.toNat % vs.length]).name.2
     have l98:=(rgH 98).2
     have hdr:List.drop 32 ((rgH 98).1.map bD)=[]:=List.drop_of_length_le (by rw [len_encH];omega)
     (simp (disch:=first | decide | omega | (simp only [nx];first | done | omega)) only [go_sem,d2,q10,hln,hrem,hg2,hm2,rv_name,b12,l32,l98,hdr,List.append_nil,q1,q8,q11];(repeat with_reducible refine aI ?_))
     exact ⟨hW1'.set (by have:=hW1'.lt b12;omega) _,h01.set hT (Nat.le_refl _) _,by rw [hfr,← hnm]⟩
    ·have d2:decide (((ls[i].frm.toNat:Nat):Int)<250)=false:=decide_eq_false (by omega)
     have hfr:fromN vs ls[i].frm=rgH 98:=by rw [fromN,if_neg h250]
     (refine dd5 @d2 @q1 @q8 @q10 @q11 ?_)
     rw [hfr];exact b12
   ·rintro f' T' ⟨f1,f8,f10,f11,f12,hW',hs',b'⟩
    have hx:=hok _ (List.getElem_mem hlt)
    generalize hfv:fromN vs ls[i].frm=fv at *
    have lfv:=fv.2
    have lnm:=ls[i].name.2
    have hrT':=hrT.sub hs'
    (refine dd0 ?_)
    refine ddraw_any (fun S'=>S'.ob T.next=some (.box 39 (fv.1.map bD))) 14 (by exact di1 @b') (by kernel_rfl) ?_
    (have F:=pk10 @f1 @f8 @f11 @f12 @hget @hlt @sp_name @sp_lens @lfv @lnm;refine stq F 0 ?_;refine stq F 1 ?_;refine stq F 2 ?_;refine stq F 3 ?_;refine stq F 4 ?_;refine stq F 5 ?_;refine stq F 6 ?_;refine stq F 7 ?_;refine stq F 8 ?_;refine stq F 9 ?_;refine stq F 10 ?_;refine stq F 11 ?_;clear F)
    (refine s_one 12 ?_;(refine dd0 ?_))
    refine DCalls.mono (DCalls.wf (add_d hrT' ovs (by omega) ls[i].name fv ls[i].lens hx.2 hx.1)) ?_
    rintro d T2 ⟨⟨rfl,F2,hr2,hF2,hfr2⟩,hT2⟩
    have hTn:=hs'.next
    have b2':=hfr2.ob _ _ (fun h=>by have:=hrT.lt _ h;omega) b'
    refine ⟨b2',?_⟩
    (have F:=trivial;refine stq F 13 ?_;clear F)
    (refine s_done (by kernel_rfl) ?_;(refine dd0 ?_))
    have hae:=refAddR_eq ovs.wf ls[i].name fv ls[i].lens
    have hst:stepR vs ls[i]=addR vs ls[i].name fv ls[i].lens (tgS ls[i].lens):=by rw [stepR,hfv]
    rw [hst] at e1
    refine ddraw_mk 18 (by kernel_rfl) ?_
    (refine dd12 @f1 @f8 @f10 @f11 @f12 @b2' @hget @hlt @sp_name @sp_lens @lfv @lnm ?_)
    refine dqgo_mk (refAdd_d .no (rvs vs) ls[i].name fv ls[i].lens (by rw [rvs_len];omega) hx.2 hx.1 (rvs_sch ovs)) ?_
    rw [hae]
    (refine dd2 @f8 @f11 ?_)
    refine DCalls.of_pure (codeO _) ?_
    (refine dd4 @f8 @f11 @w1 @bne_self_eq_false.{0} ?_)
    have hsT2:S.Sub T2:=⟨by have:=hsT.next;have:=hfr2.next;omega,fun j o e=>hfr2.ob _ _ (fun h=>by have:=hF _ h;have:=hS.lt e;omega) (hs'.ob _ _ (hsT.ob _ _ e))⟩
    refine ⟨hlt,T2.ob,fun _ _ h=>h,by omega,by exact di1 @w1,?_,hsT2,by have:=hfr2.next;show S1.next≤T2.next;omega,F2,?_,fun x h=>?_⟩
    ·rw [e1]
     exact di0
    ·rw [e1];exact hr2
    ·rcases hF2 x h with h | h
     ·exact hF x h
     ·omega
  ·have d1:decide ((i:Int)<(ls.length:Int))=false:=decide_eq_false (by omega)
   have hi:i=ls.length:=by omega
   subst hi
   (refine dd5 @q1 @q11 @q10 @q8 @d1 ?_)
   unfold MadeK
   rw [if_pos hR]
   exact ⟨k,F,rfl,hrT,fun x h=>by have:=hF x h;omega,hsT⟩
 ·rw [if_neg hR] at hd
  subst hd
  rw [decide_eq_false hR] at e20
  have z1:((1:Int) == 1)=true:=by decide
  have np:∀ {x y:Operand},dbin Tryz.prog .eql 30 x y (.v (.pointer none)) (.v (.pointer none))=some (True,.v (.bool true)):=fun {x y}=>by kernel_rfl
  (refine dd1 @c2 ?_)
  refine DCalls.of_pure (right20_d s hs (by omega)) ?_
  rw [e20]
  (refine dd1 @np ?_)
  refine DCalls.of_pure (code0_er 1) ?_
  (refine dd1 @z1 ?_)
  unfold MadeK
  rw [if_neg hR]
  exact ⟨rfl,hs1.trans hs0⟩
end
end Go.Proofs.YtogbklnkpjjkoaaGreatDoor
namespace Go.Proofs.YtogbklnkpjjkoaaGreatDoor
open Go.RowKit
theorem DCalls.finP {P:Program} {g:FuncId} {args:List D} {S:St} {K:D→St→Prop} (h:DCalls P g args S fun d T=>DFinT P S T d K):DCalls P g args S K:=fun base η w vs hM hr=>by
 rcases h base η w vs hM hr with ⟨h1,h2⟩ | ⟨d,S',η',v,w',h1,⟨S1,d1,t1,d',S'',q1,q2,q3,q4,q5,q6⟩,h3,h4⟩
 ·refine .inl ⟨h1,h2.mono fun e w' ⟨d,S',η',v,⟨S1,d1,t1,d',S'',q1,q2,q3,q4,q5,q6⟩,he,h3,h4⟩=>?_⟩
  obtain ⟨η3,t2,t3⟩:=t1 _ _ _ _ h4.mem h3
  obtain ⟨g1,g2⟩:=goes_fin hM (h4.trans t2) q3 q4 q5
  exact ⟨d',S'',_,v,q6,he,g2 d' v q2 (q1 _ _ _ _ _ t3),g1⟩
 ·obtain ⟨η3,t2,t3⟩:=t1 _ _ _ _ h4.mem h3
  obtain ⟨g1,g2⟩:=goes_fin hM (h4.trans t2) q3 q4 q5
  exact .inr ⟨d',S'',_,v,w',h1,q6,g2 d' v q2 (q1 _ _ _ _ _ t3),g1⟩
theorem DCalls.at {P:Program} {g:FuncId} {args:List D} {S:St} {d:D} (hc:d.closed) (h:DCalls P g args S fun d' T=>d'.frz=d∧S.Sub T):DAt P g args S d:=fun base η w vs hM hr =>
 DCalls.finP (h.mono fun d' T ⟨h1,h2⟩=>DFin.t ⟨d,S,h1 ▸ DLe.frz _,D.all_mono (fun _ h=>h.elim) hc,h2.next,Nat.le_refl _,fun k o hk=>⟨h2.ob k o hk,(show S.WF from hM.fresh).lt hk,fun _ _ _=>.inl hk⟩,rfl,rfl⟩) base η w vs hM hr
theorem DAt.st {P:Program} {g:FuncId} {args:List D} {S:St} {d:D} (h:∀ T,S.Sub T→DAt P g args T d):DSt P g args S d:=fun T hn ho=>h T ⟨hn,ho⟩
theorem dapp_moreR {P:Program} {S:St} {t ty e:TypeId} {own own2:Own} {es es2:List D} {K:D→St→Prop} (he:elT P t=some e) (hz:zeroT P e=true) (h:own=.full∨∃ g,own=.row g∧S.ob g=some (.row e es.length)) (hw:∀ d∈es,d.width=szOf P e) (hx:∀ d∈es2,d.width=szOf P e)
  (hb:es.length+es2.length≤140737488355328) (hb2:(es.length+es2.length) * bytesOf P e≤140737488355328) (k:K (.sl (.row S.next) (es++es2)) (S.grow own e (es.length+es2.length))):dapp P S t t ty (.sl own es) (.sl own2 es2) K:=by
 refine dapp_row ?_
 simp only [dappend,he,hz,true_and,Option.isSome_some]
 refine ⟨hw,hx,?_,hb,hb2,k⟩
 rcases h with rfl | ⟨g,rfl,h⟩
 ·trivial
 ·exact h
theorem frz_slH (own:Own) (l:List H32):(D.sl own (l.map encH)).frz=.sl .no (l.map encH):=by
 rw [D.frz,frzL_map,List.map_map]
 congr 1
 exact List.map_congr_left fun p _=>frz_encH p
theorem bDs_closed (l:List UInt8):allL (fun _=>False) (l.map bD):=allL_iff.2 fun d hd=>by obtain ⟨b,_,rfl⟩:=List.mem_map.1 hd;simp [bD,D.all]
theorem bDs_frz (v:H32):frzL (v.1.map bD)=v.1.map bD:=by have:=frz_encH v;simp only [encH,D.frz] at this;injection this
theorem frz_edD (vs:List DVer) (p:Nat × Nat):(edD vs p).frz=edD vs p:=by
 simp only [edD,edCs,D.frz,frzL_app,bDs_frz]
 rfl
theorem closed_edD (vs:List DVer) (p:Nat × Nat):(edD vs p).closed:=by
 simp only [edD,edCs,D.closed,D.all]
 refine allL_iff.2 fun d hd=>?_
 rcases List.mem_append.1 hd with hd | hd
 ·exact allL_iff.1 (bDs_closed _) d hd
 rcases List.mem_append.1 hd with hd | hd
 ·exact allL_iff.1 (bDs_closed _) d hd
 ·obtain rfl:=List.mem_singleton.1 hd;simp [D.all]
theorem frz_Eds (own:Own) (vs:List DVer) (l:List (Nat × Nat)):(D.sl own (l.map (edD vs))).frz=.sl .no (l.map (edD vs)):=by
 rw [D.frz,frzL_map,List.map_map]
 congr 1
 exact List.map_congr_left fun p _=>frz_edD vs p
theorem closed_Eds (vs:List DVer) (l:List (Nat × Nat)):(D.sl .no (l.map (edD vs))).closed:=by
 simp only [D.closed,D.all,Own.all,true_and]
 exact allL_iff.2 fun d hd=>by obtain ⟨v,_,rfl⟩:=List.mem_map.1 hd;exact closed_edD vs v
theorem out_dt {S:St} {k:Nat} {F:Nat→Prop} {vs:List DVer} (hr:RegAt k F vs S) (hl:vs.length≤1000000) {h:H32} {a:Nat} (ha:findR vs h=some a) :
  DAt Tryz.prog 15 [.loc k 0,encH h] S (.sl .no ((outW vs a).map (edD vs))) :=
 DCalls.at (closed_Eds _ _) ((out_at hr hl ha).mono fun d T ⟨⟨own,hd⟩,hs⟩=>⟨by rw [hd,frz_Eds],hs⟩)
end Go.Proofs.YtogbklnkpjjkoaaGreatDoor
namespace Go.Proofs.YtogbklnkpjjkoaaGreatDoor
def upN (vs:List DVer) (i:Nat):Nat:=(upOf vs i).toNat
def wayT (vs:List DVer) (a b:Nat):List Nat :=
 if a=b then [a] else if b<a then (if upN vs a<a then a::wayT vs (upN vs a) b else [a]) else (if upN vs b<b then wayT vs a (upN vs b)++[b] else [b])
termination_by a+b
theorem upN_lt {vs:List DVer} (hw:WfR vs) {i:Nat} (h:i<vs.length) (h0:0<i):upN vs i<i∧upOf vs i=(upN vs i:Int):=by
 have:=(hw.up i h).2 h0
 unfold upN
 omega
theorem adj_comm (vs:List DVer) (i k:Nat):adjB vs i k=adjB vs k i:=by unfold adjB;rw [Bool.or_comm]
theorem adj_cases {vs:List DVer} (hw:WfR vs) {i k:Nat} (hi:i<vs.length) (hk:k<vs.length) (h:adjB vs i k=true):(k<i∧upN vs i=k)∨(i<k∧upN vs k=i):=by
 simp only [adjB,Bool.or_eq_true,decide_eq_true_eq] at h
 rcases h with h | h
 ·have h0:0<i:=by
   rcases Nat.eq_zero_or_pos i with e | e
   ·have:=(hw.up i hi).1 e;omega
   ·exact e
  have:=upN_lt hw hi h0
  omega
 ·have h0:0<k:=by
   rcases Nat.eq_zero_or_pos k with e | e
   ·have:=(hw.up k hk).1 e;omega
   ·exact e
  have:=upN_lt hw hk h0
  omega
theorem adj_up {vs:List DVer} (hw:WfR vs) {i:Nat} (h:i<vs.length) (h0:0<i):adjB vs i (upN vs i)=true:=by
 simp only [adjB,Bool.or_eq_true,decide_eq_true_eq]
 exact .inl (upN_lt hw h h0).2
def ChT (vs:List DVer) (l:List Nat):Prop:=∀ i (h:i+1<l.length),adjB vs l[i] l[i+1]=true
structure WayP (vs:List DVer) (a b:Nat) (l:List Nat):Prop where
 nd:l.Nodup
 ch:ChT vs l
 lt:∀ x∈l,x<vs.length
 hd:l.head? = some a
 la:l.getLast? = some b
theorem WayP.rev {vs:List DVer} {a b:Nat} {l:List Nat} (h:WayP vs a b l):WayP vs b a l.reverse:=by
 refine ⟨?_,fun i hi=>?_,fun x hx=>h.lt x (List.mem_reverse.1 hx),by rw [List.head?_reverse];exact h.la,by rw [List.getLast?_reverse];exact h.hd⟩
 ·unfold List.Nodup
  rw [List.pairwise_reverse]
  exact h.nd.imp fun h=>fun e=>h e.symm
 ·rw [List.length_reverse] at hi
  simp only [List.getElem_reverse]
  rw [adj_comm]
  have:=h.ch (l.length - 1 - (i+1)) (by omega)
  simpa only [show l.length - 1 - (i+1)+1=l.length - 1 - i by omega] using this
theorem WayP.tail {vs:List DVer} {a b y:Nat} {l:List Nat} (h:WayP vs a b (a::y::l)):WayP vs y b (y::l):=by
 refine ⟨(List.nodup_cons.1 h.nd).2,fun i hi=>?_,fun x hx=>h.lt x (List.mem_cons_of_mem _ hx),rfl,by have:=h.la;rwa [List.getLast?_cons_cons] at this⟩
 have:=h.ch (i+1) (by simpa using hi)
 simpa using this
theorem way_down {vs:List DVer} (hw:WfR vs):∀ (l:List Nat) (x y:Nat),ChT vs (x::y::l)→(x::y::l).Nodup→(∀ z∈x::y::l,z<vs.length)→x<y→∀ z∈y::l,x<z
 | [],x,y,_,_,_,h,z,hz=>by obtain rfl:=List.mem_singleton.1 hz;exact h
 | w::l,x,y,hc,hn,hl,h,z,hz=>by
  have h0:=hc 0 (by simp)
  have h1:=hc 1 (by simp)
  simp only [List.getElem_cons_zero,List.getElem_cons_succ] at h0 h1
  have hx:=hl x (by simp)
  have hy:=hl y (by simp)
  have hw':=hl w (by simp)
  rcases List.mem_cons.1 hz with rfl | hz
  ·exact h
  ·have hxw:x ≠ w:=fun e=>by
    subst e
    simp at hn
   have hyw:y<w:=by
    rcases adj_cases hw hx hy h0 with e | e <;> rcases adj_cases hw hy hw' h1 with e' | e' <;> omega
   have:=way_down hw l y w (fun i hi=>by have:=hc (i+1) (by simpa using hi);simpa using this) (List.nodup_cons.1 hn).2 (fun z hz=>hl z (List.mem_cons_of_mem _ hz)) hyw z hz
   omega
theorem way_step {vs:List DVer} (hw:WfR vs) {a b:Nat} {l:List Nat} (h:WayP vs a b l) (hab:b<a):∃ t,l=a::t∧WayP vs (upN vs a) b t:=by
 match l,h with
 | [],h=>have:=h.hd;simp at this
 | [x],h =>
  have h1:=h.hd
  have h2:=h.la
  simp at h1 h2
  omega
 | x::y::l,h =>
  have h1:=h.hd
  simp at h1
  subst h1
  have h0:=h.ch 0 (by simp)
  simp only [List.getElem_cons_zero,List.getElem_cons_succ] at h0
  have ht:=h.tail
  rcases adj_cases hw (h.lt x (by simp)) (h.lt y (by simp)) h0 with e | e
  ·exact ⟨_,rfl,by rw [e.2];exact ht⟩
  ·have:=way_down hw l x y h.ch h.nd h.lt e.1 b (List.mem_of_getLast? ht.la)
   omega
theorem way_uniq {vs:List DVer} (hw:WfR vs):∀ (n a b:Nat),a+b≤n→a<vs.length→b<vs.length→∀ l,WayP vs a b l→l=wayT vs a b:=fun n=>by
 induction n with
 | zero =>
  intro a b hn ha hb l h
  obtain rfl:a=0:=by omega
  obtain rfl:b=0:=by omega
  rw [wayT,if_pos rfl]
  match l,h with
  | [],h=>have:=h.hd;simp at this
  | [x],h=>have:=h.hd;simp at this;rw [this]
  | x::y::l,h =>
   have h1:=h.hd
   simp at h1
   subst h1
   have:=List.mem_of_getLast? h.tail.la
   exact absurd this (List.nodup_cons.1 h.nd).1
 | succ n ih =>
  intro a b hn ha hb l h
  by_cases hab:a=b
  ·subst hab
   rw [wayT,if_pos rfl]
   match l,h with
   | [],h=>have:=h.hd;simp at this
   | [x],h=>have:=h.hd;simp at this;rw [this]
   | x::y::l,h =>
    have h1:=h.hd
    simp at h1
    subst h1
    have:=List.mem_of_getLast? h.tail.la
    exact absurd this (List.nodup_cons.1 h.nd).1
  ·rcases Nat.lt_or_ge b a with hlt | hge
   ·obtain ⟨t,rfl,ht⟩:=way_step hw h hlt
    have hu:=upN_lt hw ha (by omega)
    rw [wayT,if_neg hab,if_pos hlt,if_pos hu.1,ih _ _ (by omega) (by omega) hb t ht]
   ·obtain ⟨t,hl,ht⟩:=way_step hw h.rev (show a<b by omega)
    have hu:=upN_lt hw hb (by omega)
    have:=ih _ _ (by omega) ha (by omega) t.reverse ht.rev
    rw [wayT,if_neg hab,if_neg (by omega),if_pos hu.1,← this,← List.reverse_reverse l,hl,List.reverse_cons]
/-! What the walk tells leads along. -/
inductive GoodE (vs:List DVer) (start:Nat):List (Nat × Nat)→Prop
 | nil:GoodE vs start []
 | snoc {e:List (Nat × Nat)} {a b:Nat}:GoodE vs start e→a∈start::e.map (·.2)→b ∉ start::e.map (·.2)→b<vs.length→adjB vs a b=true→GoodE vs start (e++[(a,b)])
def BfI (vs:List DVer) (start:Nat) (s:Bf):Prop:=s.1=start::s.2.map (·.2)∧GoodE vs start s.2
theorem bfI_fold {vs:List DVer} {start a:Nat}:∀ (l:List Nat) (s:Bf),(∀ k∈l,k<vs.length∧adjB vs a k=true)→a∈s.1→BfI vs start s→BfI vs start (l.foldl (bfOne a) s)
 | [],s,_,_,h=>h
 | k::l,s,hl,ha,h=>by
  rw [List.foldl_cons]
  obtain ⟨h1,h2⟩:=hl k (by simp)
  have hm:a∈(bfOne a s k).1:=by
   unfold bfOne
   split
   ·exact ha
   ·exact List.mem_append.2 (.inl ha)
  refine bfI_fold l _ (fun k hk=>hl k (List.mem_cons_of_mem _ hk)) hm ?_
  unfold bfOne
  split
  ·exact h
  ·rename_i hk
   refine ⟨?_,.snoc h.2 (by rw [← h.1];exact ha) (by rw [← h.1];exact hk) h1 h2⟩
   simp only [h.1,List.map_append,List.cons_append]
   rfl
theorem bes_adj {vs:List DVer} {a k:Nat} (h:k∈besL vs a):adjB vs a k=true:=(List.mem_filter.1 h).2
theorem bfs_I (vs:List DVer) (start:Nat):∀ p,BfI vs start (bfs vs start p)
 | 0=>⟨rfl,.nil⟩
 | p+1=>by
  have ih:=bfs_I vs start p
  rw [bfs]
  split
  ·rename_i a ha
   exact bfI_fold _ _ (fun k hk=>⟨besL_lt hk,bes_adj hk⟩) (List.mem_of_getElem? ha) ih
  ·exact ih
theorem outW_I (vs:List DVer) (start:Nat):(bfs vs start vs.length).1=start::(outW vs start).map (·.2)∧GoodE vs start (outW vs start):=bfs_I vs start vs.length
theorem bfFold_pre {a:Nat}:∀ (l:List Nat) (s:Bf),s.1 <+: (l.foldl (bfOne a) s).1∧∀ k∈l,k∈(l.foldl (bfOne a) s).1
 | [],s=>⟨List.prefix_rfl,fun k h=>by simp at h⟩
 | k::l,s=>by
  rw [List.foldl_cons]
  obtain ⟨h1,h2⟩:=bfFold_pre l (bfOne a s k) (a:=a)
  have h3:s.1 <+: (bfOne a s k).1∧k∈(bfOne a s k).1:=by
   unfold bfOne
   split
   ·rename_i h;exact ⟨List.prefix_rfl,h⟩
   ·exact ⟨List.prefix_append _ _,by simp⟩
  refine ⟨h3.1.trans h1,fun j hj=>?_⟩
  rcases List.mem_cons.1 hj with rfl | hj
  ·exact h1.subset h3.2
  ·exact h2 j hj
theorem bfs_pre (vs : List DVer) (start : Nat) {p q : Nat} (h : p ≤ q) : (bfs vs start p).1 <+: (bfs vs start q).1 := by
  induction q with
  | zero => obtain rfl : p = 0 := by omega
            exact List.prefix_rfl
  | succ q ih =>
    by_cases e : p = q + 1
    · rw [e]; exact List.prefix_rfl
    · refine (ih (by omega)).trans ?_
      rw [bfs]
      split
      · exact (bfFold_pre _ _).1
      · exact List.prefix_rfl
theorem bfs_closed {vs:List DVer} {start:Nat} (hs:start<vs.length) {a k:Nat} (ha:a∈(bfs vs start vs.length).1) (hk:k∈besL vs a):k∈(bfs vs start vs.length).1:=by
 obtain ⟨p,hp,rfl⟩:=List.getElem_of_mem ha
 have hp':p<bfR vs start:=hp
 have hg:=bfR_go hs hp'
 have hle:=bfR_le hs
 have e:=(bfs_pre vs start (p:=p) (q:=vs.length) (by omega)).getElem hg
 rw [← e] at hk
 refine (bfs_pre vs start (p:=p+1) (q:=vs.length) (by omega)).subset ?_
 rw [bfs_at hg]
 exact (bfFold_pre _ _).2 k hk
theorem mem_bes {vs:List DVer} {a k:Nat} (hk:k<vs.length) (h:adjB vs a k=true):k∈besL vs a:=List.mem_filter.2 ⟨List.mem_range.2 hk,h⟩
theorem bfs_all {vs : List DVer} (hw : WfR vs) {start : Nat} (hs : start < vs.length) : ∀ x, x < vs.length → x ∈ (bfs vs start vs.length).1 := by
  have h0 : ∀ n x, x ≤ n → x < vs.length → x ∈ (bfs vs start vs.length).1 → 0 ∈ (bfs vs start vs.length).1 := fun n => by
    induction n with
    | zero => intro x hx _ h; obtain rfl : x = 0 := by omega
              exact h
    | succ n ih =>
      intro x hx hl h
      rcases Nat.eq_zero_or_pos x with e | e
      · subst e; exact h
      · have hu := upN_lt hw hl e
        exact ih (upN vs x) (by omega) (by omega) (bfs_closed hs h (mem_bes (by omega) (adj_up hw hl e)))
  have hz := h0 start start (Nat.le_refl _) hs (by rw [(outW_I vs start).1]; simp)
  have h1 : ∀ n x, x ≤ n → x < vs.length → x ∈ (bfs vs start vs.length).1 := fun n => by
    induction n with
    | zero => intro x hx _; obtain rfl : x = 0 := by omega
              exact hz
    | succ n ih =>
      intro x hx hl
      rcases Nat.eq_zero_or_pos x with e | e
      · subst e; exact hz
      · have hu := upN_lt hw hl e
        exact bfs_closed hs (ih (upN vs x) (by omega) (by omega)) (mem_bes hl (by rw [adj_comm]; exact adj_up hw hl e))
  exact fun x h => h1 x x (Nat.le_refl _) h
theorem len_ge:∀ (n:Nat) (l:List Nat),(∀ x,x<n→x∈l)→n≤l.length
 | 0,_,_=>Nat.zero_le _
 | n+1,l,h=>by
  have h1:=h n (by omega)
  have e:(l.erase n).length=l.length - 1:=List.length_erase_of_mem h1
  have:=len_ge n (l.erase n) fun x hx=>(List.mem_erase_of_ne (by omega)).2 (h x (by omega))
  have:=List.length_pos_of_mem h1
  omega
theorem outW_len {vs:List DVer} (hw:WfR vs) {start:Nat} (hs:start<vs.length):(outW vs start).length+1=vs.length:=by
 have h1:=bfs_len vs hs vs.length
 have h2:=len_ge vs.length _ (bfs_all hw hs)
 have h3:=bfs_len2 vs start vs.length
 unfold outW
 omega
end Go.Proofs.YtogbklnkpjjkoaaGreatDoor
namespace Go.Proofs.YtogbklnkpjjkoaaGreatDoor
open Go.RowKit
theorem inl_ct_ret {P:Program} {f:Fm} {K:D→St→Prop} (x:Tmp) (t:TypeId) (u:Tmp) (S':St):DQ.inl P [.cell x t,.tmp u] K .ret f S'=dcellR P S' t (f x) (fun r=>K (.tup [r,f u]) S'):=by
 rw [← onVal_cell]
 simp [DQ.inl,dresL,dres,onVal,one]
attribute [local go_sem] inl_ct_ret
theorem verD_up (v:DVer) (o:Own) (b:List Nat):(verD v o b).cells.getD 0 undefD=.v (.int .i64 v.up):=rfl
theorem verD_lens (v:DVer) (o:Own) (b:List Nat):D.agg (((verD v o b).cells.drop 1).take 20)=encL v.lens:=by
 show D.agg (((verCs v o b).drop 1).take 20)=_
 rw [verCs_lens,agg_encL]
theorem verD_sch (v:DVer) (o:Own) (b:List Nat):D.agg (((verD v o b).cells.drop 21).take 3)=encS v.sch:=by
 show D.agg (((verCs v o b).drop 21).take 3)=_
 rw [verCs_sch,encS_eq];rfl
theorem names_len (vs:List DVer):((vs.map (·.name)).map encH).length=vs.length:=by simp
theorem names_at {vs:List DVer} {i:Nat} (h:i<vs.length):((vs.map (·.name)).map encH).getD i undefD=encH vs[i].name:=by
 simp [List.getD,h]
section
set_option maxRecDepth 200000
set_option maxHeartbeats 8000000
theorem versions_at {S:St} {k:Nat} {F:Nat→Prop} {vs:List DVer} (hr:RegAt k F vs S) (hp:0<vs.length) (hl:vs.length≤1000000) :
  DCalls Tryz.prog 17 [.loc k 0] S (fun d T=>(∃ own,d=.sl own ((vs.map (·.name)).map encH))∧S.Sub T):=by
 refine dcalls_inline mixed Tryz.func17 rfl (fun _ _=>by kernel_rfl) (rs:=[.tmp 2]) rfl (by kernel_rfl) (fun hS=>?_)
 obtain ⟨ow,bb,q,c,es,zs,o,g1,g2,g3,g4,g5,g6⟩:=hr.open hp
 have hnl:=names_len vs
 (refine dd1 @g1 ?_)
 refine dapp_moreR elHs zeHs (.inl rfl) (fun d hd=>by simp at hd) (fun d hd=>by obtain ⟨x,_,rfl⟩:=List.mem_map.1 hd;rw [szHs];exact width_encH x) (by rw [hnl,List.length_nil];omega) (by rw [hnl,List.length_nil,byHs];omega) ?_
 have hsG:∀ n,S.Sub (S.grow .full 39 n):=fun n=>⟨by rw [grow_next];omega,fun j' o' e=>growR_keep hS e fun g eg ej=>by cases eg⟩
 (refine dd0 ?_)
 exact ⟨⟨_,rfl⟩,hsG _⟩
theorem schema_at {S:St} {k:Nat} {F:Nat→Prop} {vs:List DVer} (hr:RegAt k F vs S) {h:H32} {a:Nat} (ha:findR vs h=some a) (hal:a<vs.length) (hok:okS vs[a].sch) (hw:vs[a].sch.weight≤1000000) :
  DCalls Tryz.prog 21 [.loc k 0,encH h] S (fun d T=>d=.tup [encS vs[a].sch,.v (.bool true)]∧S.Sub T):=by
 refine dcalls_inline mixed Tryz.func21 rfl (fun _ _=>by kernel_rfl) (rs:=[.cell 4 25,.tmp 5]) rfl (by kernel_rfl) (fun hS=>?_)
 have l1:=h.2
 (refine dd1 @l1 ?_)
 generalize hX:St.add (St.add S _) _=S1
 have hs1:S.Sub S1:=by rw [← hX];exact ((St.Sub.refl S).add hS _).add hS _
 have hW1:S1.WF:=by rw [← hX];exact (hS.add _).add _
 have b1:S1.ob S.next=some (.box 39 (h.1.map bD)):=by rw [← hX];exact di0
 have b2:S1.ob (S.next+1)=some (.box 25 [.v (.int .i64 0),.sl .full [],.sl .full []]):=by rw [← hX];exact di0
 clear hX
 have hr1:=hr.sub hs1
 refine go_at (find_at hr1 h) ?_
 rw [ha]
 have c1:(some a).isSome=true:=rfl
 obtain ⟨ow,bb,q,c,es,zs,o,g1,g2,g3,g4,g5,g6⟩:=hr1.open (by omega)
 have hget:=flatR_part (a:=21) (b:=3) g5 (g6 a hal) (by omega) zs
 have hfit:=flatR_fit g5 (g6 a hal) zs
 (refine dd9 @c1 @b1 @b2 @l1 @g1 @g2 @hget @verD_sch @Option.getD_some.{0} ?_)
 refine DCalls.of_pure (schCopy_d _ hok hw) ?_
 (refine dd1 @b2 ?_)
 exact hs1.set hS (Nat.le_succ _) _
theorem versions_dt {S:St} {k:Nat} {F:Nat→Prop} {vs:List DVer} (hr:RegAt k F vs S) (hp:0<vs.length) (hl:vs.length≤1000000):DAt Tryz.prog 17 [.loc k 0] S (.sl .no ((vs.map (·.name)).map encH)) :=
 DCalls.at (closed_Hs _) ((versions_at hr hp hl).mono fun d T ⟨⟨own,hd⟩,hs⟩=>⟨by rw [hd,frz_slH],hs⟩)
theorem schema_dt {S:St} {k:Nat} {F:Nat→Prop} {vs:List DVer} (hr:RegAt k F vs S) {h:H32} {a:Nat} (ha:findR vs h=some a) (hal:a<vs.length) (hok:okS vs[a].sch) (hw:vs[a].sch.weight≤1000000):DAt Tryz.prog 21 [.loc k 0,encH h] S (.tup [encS vs[a].sch,.v (.bool true)]) :=
 DCalls.at ⟨closed_encS _,trivial,trivial⟩ ((schema_at hr ha hal hok hw).mono fun d T ⟨hd,hs⟩=>⟨by rw [hd];simp only [D.frz,frzL,frz_encS],hs⟩)
/-! The lens, and of which. -/
end
end Go.Proofs.YtogbklnkpjjkoaaGreatDoor
namespace Go.Proofs.YtogbklnkpjjkoaaGreatDoor
open Go.RowKit
theorem stSmall {ls:List DRst} (h:greatSt ls=false) (hok:∀ x∈ls,okL x.lens):ls.length≤14∧∀ x∈ls,okL x.lens∧roomL 8 x.lens=true:=by
 rw [greatSt,Bool.or_eq_false_iff,decide_eq_false_iff_not] at h
 refine ⟨by omega,fun x hx=>⟨hok x hx,?_⟩⟩
 have:=List.any_eq_false.1 h.2 x hx
 simpa [greatL] using this
theorem closed_Sp (v:DRst):(encSp v).closed:=by
 have hL:=closed_encL v.lens
 rw [← agg_encL] at hL
 simp only [D.closed,D.all] at hL
 simp only [encSp,spCs,D.closed,D.all]
 refine allL_iff.2 fun d hd=>?_
 rcases List.mem_cons.1 hd with rfl | hd
 ·simp [bD,D.all]
 rcases List.mem_append.1 hd with hd | hd
 ·exact allL_iff.1 (bDs_closed _) d hd
 ·exact allL_iff.1 hL d hd
theorem closed_Sps (l:List DRst):(D.sl .no (l.map encSp)).closed:=by
 simp only [D.closed,D.all,Own.all,true_and]
 exact allL_iff.2 fun d hd=>by obtain ⟨v,_,rfl⟩:=List.mem_map.1 hd;exact closed_Sp v
theorem find_nm {vs:List DVer} (hw:WfR vs) {i:Nat} (h:i<vs.length):findR vs (nmAt vs i)=some i:=by rw [nmAt_lt h];exact findR_at hw.nodup h
theorem rvs_nm {vs:List DVer} {i:Nat} (h:i<vs.length):((rvs vs)[i]'(by rw [rvs_len];exact h)).name=nmAt vs i:=by rw [rvs_get h,nmAt_lt h];rfl
theorem names_nm {vs:List DVer} {i:Nat} (h:i<vs.length):((vs.map (·.name)).map encH).getD i undefD=encH (nmAt vs i):=by rw [nmAt_lt h];exact names_at h
theorem out_st {S:St} {k:Nat} {F:Nat→Prop} {vs:List DVer} (hr:RegAt k F vs S) (hw:WfR vs) (hl:vs.length≤1000000) {a:Nat} (ha:a<vs.length):DSt Tryz.prog 15 [.loc k 0,encH (nmAt vs a)] S (.sl .no ((outW vs a).map (edD vs))):=DAt.st fun T hs=>out_dt (hr.sub hs) hl (find_nm hw ha)
theorem DSt.at {P:Program} {g:FuncId} {args:List D} {S:St} {d:D} (h:DSt P g args S d):DAt P g args S d:=h S (Nat.le_refl _) fun _ _ h=>h
theorem upOf_take {vs:List DVer} {i j:Nat} (h:j<i):upOf (vs.take i) j=upOf vs j:=by
 unfold upOf
 rw [List.getElem?_take];simp [h]
theorem wfR_take {vs:List DVer} (hw:WfR vs) (i:Nat):WfR (vs.take i):=by
 refine ⟨fun j hj=>?_,?_⟩
 ·rw [List.length_take] at hj
  rw [upOf_take (by omega)]
  exact hw.up j (by omega)
 ·rw [List.map_take]
  exact hw.nodup.sublist (List.take_sublist _ _)
theorem find_take {vs:List DVer} (hw:WfR vs) {i:Nat} (hi:i<vs.length):findR (vs.take i) vs[i].name=none:=by
 cases h:findR (vs.take i) vs[i].name with
 | none=>rfl
 | some j =>
  obtain ⟨hj,e⟩:=findR_some h
  rw [List.length_take] at hj
  rw [List.getElem_take] at e
  have:=nodup_inj hw.nodup (i:=j) (j:=i) (by simp;omega) (by simpa using hi) (by rw [List.getElem_map,List.getElem_map];exact e)
  omega
theorem ver_lCs2 (v:DVer):D.agg (D.v (.int .i64 v.up)::(lCs v.lens (.sl .no (v.lens.pairs.map encPr)) (.sl .no (v.lens.inner.map encL))++(sCs v.sch++[.sl .full []])))=verD v .full []:=by
 unfold verD verCs
 rw [cells_lCs,cells_sCs]
 rfl
section
set_option maxRecDepth 200000
set_option maxHeartbeats 8000000
theorem copy_at {S:St} {k:Nat} {F:Nat→Prop} {vs:List DVer} (hr:RegAt k F vs S) (hw:WfR vs) (hp:0<vs.length) (hl:vs.length≤1000000) :
  DCalls Tryz.prog 19 [.loc k 0] S (fun d T=>(∃ k' F',d=.loc k' 0∧RegAt k' F' vs T∧∀ q,F' q→S.next≤q)∧S.Sub T):=by
 refine dcalls_inline mixed Tryz.func19 rfl (fun _ _=>by kernel_rfl) (rs:=[.tmp 2]) rfl (by kernel_rfl) (fun hS=>?_)
 obtain ⟨ow,bb,qq,c,es,zs,o,g1,g2,g3,g4,g5,g6⟩:=hr.open hp
 have hnl:=names_len vs
 (refine dd0 ?_)
 refine dmake_map fun b=>?_
 (refine dd2 @g1 @hnl ?_)
 generalize hX:St.add (St.add S _) _=X
 have hsX:S.Sub X:=by rw [← hX];exact ((St.Sub.refl S).add hS _).add hS _
 have hWX:X.WF:=by rw [← hX];exact (hS.add _).add _
 have hnX:X.next=S.next+2:=by rw [← hX];rfl
 have x2:X.ob S.next=some (.mp b (mapL [])):=by rw [← hX];exact di0
 have x3:X.ob (S.next+1)=some (.box 95 [.sl .full [],.sl .full [],.v (.map (some b))]):=by rw [← hX];exact di0
 clear hX
 have hreg:RegAt (S.next+1) (fun q=>q=S.next∨q=S.next+1) [] X:=by
  refine ⟨⟨.full,.sl .full [],[],fun _=>.full,b,S.next,x3,.inl ⟨rfl,rfl⟩,⟨.inl ⟨rfl,rfl⟩,fun _ _ _ e=>by cases e⟩,⟨x2,.inl rfl⟩,⟨rfl,fun i hi=>by simp at hi⟩,fun i hi=>by simp at hi,fun i i' g hi=>by simp at hi⟩,.inr rfl,fun q hq=>?_⟩
  rcases hq with rfl | rfl <;> omega
 have x1:=hsX.ob _ _ g1
 (refine dd2 @x1 @hnl ?_)
 refine dloop_up (fun t=>List.contains [4,5,16,17,18,19,20,21,22,23,24,25,26,27,28,29,30,31,32,33,34,35,36,37,38,39,40,41,42,43,44,45,46,47,48,49] t) (by kernel_rfl) hWX vs.length (fun i q U=>i≤vs.length∧q 16=.v (.int .i64 ((i:Nat):Int))∧S.Sub U∧∃ F',RegAt (S.next+1) F' (vs.take i) U∧∀ q,F' q→S.next≤q)
  ⟨Nat.zero_le _,by exact di0,hsX,_,by rw [List.take_zero];exact hreg,fun q hq=>by rcases hq with rfl | rfl <;> omega⟩ ?_
 rintro i q U hU hg ⟨le,q16,hsU,F',hrU',hF'⟩
 (have q0:=hg 0 rfl;have q2:=hg 2 rfl;have q3:=hg 3 rfl;have q14:=hg 14 rfl;have q15:=hg 15 rfl;simp (disch:=first | decide | omega | (simp only [nx];first | done | omega)) only [go_sem,hnl] at q0 q2 q3 q14 q15;clear hg)
 by_cases hi:i<vs.length
 ·have b1:decide ((i:Int)<(vs.length:Int))=true:=decide_eq_true (by omega)
  have w1:IntKind.i64.wrap ((i:Int)+1)=((i+1:Nat):Int):=IntWalk.i64_in _ ⟨by omega,by omega⟩
  have gn:=names_nm hi
  have li:=(nmAt vs i).2
  (refine dd8 @q14 @q15 @q16 @b1 @gn @hnl @li @placeR ?_)
  generalize hX:St.set (St.add U _) _ _=U1
  have hs1:U.Sub U1:=by rw [← hX];exact ((St.Sub.refl U).add hU _).set hU (Nat.le_refl _) _
  have hW1:U1.WF:=by rw [← hX];exact (hU.add _).set (Nat.lt_succ_self _) _
  have hn1:U1.next=U.next+1:=by rw [← hX];rfl
  have b5:U1.ob U.next=some (.box 39 ((nmAt vs i).1.map bD)):=by rw [← hX];exact di0
  clear hX
  have hrU:=hr.sub (hsU.trans hs1)
  have hr1:=hrU'.sub hs1
  obtain ⟨ow,bb,qq,c,es,zs,o,g1,g2,g3,g4,g5,g6⟩:=hrU.open hp
  have hg0:=flatR_get (j:=0) g5 (g6 i hi) (by omega) zs
  rw [verD_up,Nat.add_zero] at hg0
  have hgL:=flatR_part (a:=1) (b:=20) g5 (g6 i hi) (by omega) zs
  have hgS:=flatR_part (a:=21) (b:=3) g5 (g6 i hi) (by omega) zs
  have hfit:=flatR_fit g5 (g6 i hi) zs
  refine ddraw_any (fun S'=>S'.ob k=some (.box 95 [.sl ow ((vs.map (·.name)).map encH),.win qq 0 vs.length c,.v (.map (some bb))])∧S'.ob qq=some (.box 99 (flat es++zs))∧S'.ob U.next=some (.box 39 ((nmAt vs i).1.map bD))) 28 (by exact di5 @g1 @g2 @b5 @true_and @and_true) (by kernel_rfl) ?_
  (have F:=pk6 @q0 @q3 @li @hg0 @Nat.mul_one @Nat.zero_add;refine stq F 0 ?_;refine stq F 1 ?_;refine stq F 2 ?_;refine stq F 3 ?_;refine stq F 4 ?_;refine stq F 5 ?_;refine stq F 6 ?_;refine stq F 7 ?_;refine stq F 8 ?_;refine stq F 9 ?_;clear F)
  (have F:=pk3 @q0 @hgL @verD_lens;refine stq F 10 ?_;refine stq F 11 ?_;refine stq F 12 ?_;refine stq F 13 ?_;refine stq F 14 ?_;refine stq F 15 ?_;refine stq F 16 ?_;refine stq F 17 ?_;clear F)
  (have F:=pk3 @q0 @hgS @verD_sch;refine stq F 18 ?_;refine stq F 19 ?_;refine stq F 20 ?_;refine stq F 21 ?_;refine stq F 22 ?_;refine stq F 23 ?_;refine stq F 24 ?_;refine stq F 25 ?_;clear F)
  (refine s_take 26 rfl (by kernel_rfl) (by kernel_rfl) (v:=D.agg (D.v (.int .i64 vs[i].up)::(lCs vs[i].lens (.sl .no (vs[i].lens.pairs.map encPr)) (.sl .no (vs[i].lens.inner.map encL))++(sCs vs[i].sch++[.sl .full []])))) (fun S' hz=>dquietR_of (by (simp (disch:=first | decide | omega | (simp only [nx];first | done | omega)) only [go_sem,cells_lCs,lCs,cells_sCs,sCs];(repeat with_reducible refine aI ?_));first | done | rfl | omega)) ?_)
  (refine s_one 27 ?_;(refine dd0 ?_))
  rw [ver_lCs2,nmAt_lt hi]
  have hti:(vs.take i).length=i:=by rw [List.length_take];omega
  have hup:vs[i].up=-1∧vs.take i=[]∨0≤vs[i].up∧vs[i].up<((vs.take i).length:Int):=by
   have hu:=hw.up i hi
   rw [upOf_lt hi] at hu
   rcases Nat.eq_zero_or_pos i with e | e
   ·exact .inl ⟨hu.1 e,by rw [e,List.take_zero]⟩
   ·rw [hti];exact .inr (hu.2 e)
  refine DCalls.mono (DCalls.wf (reg_a hr1 vs[i] (wfR_take hw i) hup (find_take hw hi) (by omega))) ?_
  rintro d T ⟨⟨rfl,F2,hr2,hF2,hfr⟩,hT⟩
  have hkn:=hr.lt k hr.fk
  have hqn:=hr.lt qq g3
  have t1:=hfr.ob _ _ (fun h=>by have:=hF' _ h;omega) g1
  have t2:=hfr.ob _ _ (fun h=>by have:=hF' _ h;omega) g2
  have t3:=hfr.ob _ _ (fun h=>by have:=hrU'.lt _ h;omega) b5
  rw [nmAt_lt hi] at t3
  refine ⟨⟨t1,t2,t3⟩,?_⟩
  (refine s_done (by kernel_rfl) ?_;(refine dd5 @t1 @t2 @t3 @w1 @q16 ?_))
  have hsT:S.Sub T:=⟨by have:=hsU.next;have:=hfr.next;omega,fun j o e=>hfr.ob _ _ (fun h=>by have:=hF' _ h;have:=hS.lt e;omega) (hs1.ob _ _ (hsU.ob _ _ e))⟩
  have htk:vs.take i++[vs[i]]=vs.take (i+1):=(List.take_succ_eq_append_getElem hi).symm
  exact ⟨hi,_,fun _ _ h=>h,by omega,by exact di0,hsT,F2,by rw [← htk];exact hr2,fun x h=>by
   rcases hF2 x h with h | h
   ·exact hF' x h
   ·have:=hsU.next;omega⟩
 ·obtain rfl:i=vs.length:=by omega
  have b1:decide ((vs.length:Int)<(vs.length:Int))=false:=decide_eq_false (by omega)
  rw [List.take_length] at hrU'
  (refine dd4 @q3 @q15 @q16 @b1 ?_)
  exact ⟨⟨_,F',rfl,hrU',hF'⟩,hsU⟩
end
theorem refSS (t:DSch) (h:okS t):DPure Tryz.prog 22 [encS t,encS t] (.v (.bool true)):=by
 have:=refSameS_d t t h h
 rwa [eqB_self] at this
section
set_option maxRecDepth 200000
set_option maxHeartbeats 8000000
end
attribute [local go_sem] cl_RV okCell_RV cl_Sp okCell_Sp
theorem cl_args4 (s:DSch) (l m:List DRst):allL (fun _=>False) [encS s,.sl .no (l.map encSp),.sl .no (m.map encSp)]:=⟨closed_encS s,closed_Sps l,closed_Sps m,trivial⟩
theorem wB5c:wB 5≤1000000:=by decide
theorem schema_sc {S:St} {k:Nat} {F:Nat→Prop} {vs:List DVer} (hr:RegAt k F vs S) (hv:OkR vs) {i:Nat} (hi:i<vs.length):DSt Tryz.prog 21 [.loc k 0,encH (nmAt vs i)] S (.tup [encS vs[i].sch,.v (.bool true)]):=DAt.st fun T hs=>by
 have hx:=hv.sch _ (List.getElem_mem hi)
 exact schema_dt (hr.sub hs) (find_nm hv.wf hi) hi hx.1 (Nat.le_trans (rightS_wB 5 _ hx.2) wB5c)
noncomputable def cpV (vs:List DVer) (ms:List DRst) (i:Nat):List DVer:=(ms.take i).foldl (fun v x=>(addR v x.name (nmAt vs (x.frm.toNat % vs.length)) x.lens (tgS x.lens)).1) vs
theorem cpV_succ {vs:List DVer} {ms:List DRst} {i:Nat} (h:i<ms.length):cpV vs ms (i+1)=(addR (cpV vs ms i) ms[i].name (nmAt vs (ms[i].frm.toNat % vs.length)) ms[i].lens (tgS ms[i].lens)).1:=by
 rw [cpV,List.take_succ_eq_append_getElem h,List.foldl_append];rfl
theorem cpV_ok {vs:List DVer} (hv:OkR vs) {ms:List DRst} (hl:∀ x∈ms,okL x.lens∧roomL 8 x.lens=true):∀ i,i≤ms.length→OkR (cpV vs ms i)∧(cpV vs ms i).length≤vs.length+i∧vs <+: cpV vs ms i
 | 0,_=>⟨hv,Nat.le_refl _,List.prefix_rfl⟩
 | i+1,h=>by
  obtain ⟨h1,h2,h3⟩:=cpV_ok hv hl i (by omega)
  have hx:=hl _ (List.getElem_mem (show i<ms.length by omega))
  rw [cpV_succ (by omega)]
  refine ⟨addR_ok h1 _ _ _ hx.1 hx.2,?_,?_⟩
  ·rcases addR_cases (cpV vs ms i) ms[i].name (nmAt vs (ms[i].frm.toNat % vs.length)) ms[i].lens (tgS ms[i].lens) with ⟨e,_⟩ | ⟨k,hk,_,_,_,e⟩
   ·rw [e];omega
   ·rw [e];simp;omega
  ·rcases addR_cases (cpV vs ms i) ms[i].name (nmAt vs (ms[i].frm.toNat % vs.length)) ms[i].lens (tgS ms[i].lens) with ⟨e,_⟩ | ⟨k,hk,_,_,_,e⟩
   ·rw [e];exact h3
   ·rw [e];exact h3.trans (List.prefix_append _ _)
section
set_option maxRecDepth 200000
set_option maxHeartbeats 8000000
theorem copies_d (s:DSch) (ls ms:List DRst) (hs:okS s) (hl:ls.length≤140737488351232) (hok:∀ x∈ls,okL x.lens) (hlm:ms.length≤140737488351232) (hokm:∀ x∈ms,okL x.lens):DPure Tryz.prog 5 [encS s,.sl .no (ls.map encSp),.sl .no (ms.map encSp)] (.v (.bool true)):=by
 refine dpure_nil (cl_args4 s ls ms) (dat_of_dwpL mixed Tryz.func5 rfl (fun _ _=>by kernel_rfl) (rs:=[.tmp 6]) rfl (by kernel_rfl) (by trivial) (fun hS=>?_))
 have lS:=cells_encS s
 have aS:D.agg (encS s).cells=encS s:=by rw [encS_eq];rfl
 (refine dd2 @lS @aS ?_)
 refine DCalls.of_pure (greatSD s hs) ?_
 cases hg:greatS s with
 | true =>
  (refine dd0 ?_)
  refine DCalls.of_pure awake20_d ?_
  (refine dd0 ?_)
  refine pendL ?_
  rfl
 | false =>
 (refine dd0 ?_)
 refine DCalls.of_pure (great20_d .no ls hl hok) ?_
 cases hg2:greatSt ls with
 | true =>
  (refine dd0 ?_)
  refine DCalls.of_pure awake20_d ?_
  (refine dd0 ?_)
  refine pendL ?_
  rfl
 | false =>
 (refine dd0 ?_)
 refine DCalls.of_pure (great20_d .no ms hlm hokm) ?_
 cases hg3:greatSt ms with
 | true =>
  (refine dd0 ?_)
  refine DCalls.of_pure awake20_d ?_
  (refine dd0 ?_)
  refine pendL ?_
  rfl
 | false =>
 (refine dd2 @lS @aS ?_)
 obtain ⟨hl14,hok2⟩:=stSmall hg2 hok
 obtain ⟨hm14,hokm2⟩:=stSmall hg3 hokm
 have hsw:=(smallS hg).1
 refine DCalls.mono (DCalls.wf (made_a s .no ls hs (by omega) hl14 hok2)) ?_
 rintro d T ⟨hd,hT⟩
 unfold MadeK at hd
 by_cases hR:s.kind=5∧rightS 5 s=true
 ·rw [if_pos hR] at hd
  obtain ⟨k,F,rfl,hr,hF,hsT⟩:=hd
  have hv:=mdV_ok hs hR.2 hok2 ls.length (Nat.le_refl _)
  have hvl:=mdV_len s ls ls.length (Nat.le_refl _)
  generalize mdV s ls ls.length=vs at *
  have hw:=hv.wf
  have hpos:=hv.pos
  have hln:=rvs_len vs
  have hnl:=names_len vs
  have e0:((vs.length:Int) == 0)=false:=by rw [beq_eq_false_iff_ne];omega
  (refine dd2 @hln @e0 ?_)
  refine DCalls.mono (DCalls.wf (copy_at hr hw hpos (by omega))) ?_
  rintro d T1 ⟨⟨⟨k',F1,rfl,hr1,hF1⟩,hs1⟩,hT1⟩
  (refine dd0 ?_)
  refine go_at (versions_dt (hr.sub hs1) hpos (by omega)) ?_
  (refine dd0 ?_)
  have hcp:=cpV_ok (ms:=ms) hv hokm2
  refine dloop_up (fun t=>List.contains [12,54,55,56,57,58,59,60,61,62,63,64,65,66,67,68,69,70,71,72,73,74,75,76,77,78,79,80,81,82,83,84] t) (by kernel_rfl) hT1 ms.length (fun i q U=>i≤ms.length∧q 12=.v (.int .i64 ((i:Nat):Int))∧T.Sub U∧∃ F',RegAt k' F' (cpV vs ms i) U∧∀ x,F' x→T.next≤x)
   ⟨Nat.zero_le _,by exact di0,hs1,F1,hr1,hF1⟩ ?_
  rintro i q U hU hg ⟨le,q12,hsU,F2,hrU,hF2⟩
  (have q2:=hg 2 rfl;have q6:=hg 6 rfl;have q7:=hg 7 rfl;have q8:=hg 8 rfl;have q10:=hg 10 rfl;have q11:=hg 11 rfl;simp (disch:=first | decide | omega | (simp only [nx];first | done | omega)) only [go_sem] at q2 q6 q7 q8 q10 q11;clear hg)
  obtain ⟨hci,hcl,hcx⟩:=hcp i le
  by_cases hi:i<ms.length
  ·have b1:decide ((i:Int)<(ms.length:Int))=true:=decide_eq_true (by omega)
   have w1:IntKind.i64.wrap ((i:Int)+1)=((i+1:Nat):Int):=IntWalk.i64_in _ ⟨by omega,by omega⟩
   have e1:=cpV_succ (vs:=vs) hi
   have hget:=getD_map encSp ms i hi
   have hb:bD ms[i].frm=.v (.int .u8 ((ms[i].frm.toNat:Nat):Int)):=rfl
   have hfl:ms[i].frm.toNat<256:=UInt8.toNat_lt _
   have w2:IntKind.i64.wrap ((ms[i].frm.toNat:Nat):Int)=((ms[i].frm.toNat:Nat):Int):=IntWalk.i64_in _ ⟨by omega,by omega⟩
   have hm:ms[i].frm.toNat % vs.length<vs.length:=Nat.mod_lt _ hpos
   have hm2:ms[i].frm.toNat % vs.length<(rvs vs).length:=by omega
   have hg2:=getD_map encRV (rvs vs) _ hm2
   have hnm:=rvs_nm hm
   have hrem:∀ {x y:Operand},dbin Tryz.prog .rem 3 x y (.v (.int .i64 ((ms[i].frm.toNat:Nat):Int))) (.v (.int .i64 ((vs.length:Nat):Int)))=some (True,.v (.int .i64 ((ms[i].frm.toNat % vs.length:Nat):Int))):=fun {x y}=>bin_rem _ _ _ (by omega)
   have lnm:=ms[i].name.2
   have l32:=(nmAt vs (ms[i].frm.toNat % vs.length)).2
   have hx:=hokm2 _ (List.getElem_mem hi)
   (refine dd3 @q2 @q12 @b1 ?_)
   refine ddraw_any (fun _=>True) 25 (by exact di2 @true_and @and_true) (by kernel_rfl) ?_
   (have F:=pk7 @q2 @q10 @q12 @hget @hi @sp_name @lnm;refine stq F 0 ?_;refine stq F 1 ?_;refine stq F 2 ?_;refine stq F 3 ?_;refine stq F 4 ?_;refine stq F 5 ?_;clear F)
   (refine stk 6 (v:=?v7) (fun S' hz=>dquietR_of ?h7) <| stk 7 (v:=?v8) (fun S' hz=>dquietR_of ?h8) <| stk 8 (v:=?v9) (fun S' hz=>dquietR_of ?h9) <| stk 9 (v:=?v10) (fun S' hz=>dquietR_of ?h10) <| stk 10 (v:=?v11) (fun S' hz=>dquietR_of ?h11) <| stk 11 (v:=?v12) (fun S' hz=>dquietR_of ?h12) <| stk 12 (v:=?v13) (fun S' hz=>dquietR_of ?h13) <| stk 13 (v:=?v14) (fun S' hz=>dquietR_of ?h14) <| stk 14 (v:=?v15) (fun S' hz=>dquietR_of ?h15) <| stk 15 (v:=?v16) (fun S' hz=>dquietR_of ?h16) <| stk 16 (v:=?v17) (fun S' hz=>dquietR_of ?h17) <| stk 17 (v:=?v18) (fun S' hz=>dquietR_of ?h18) <| stk 18 (v:=?v19) (fun S' hz=>dquietR_of ?h19) <| ?k19;(case h7 | h8 | h9 | h10 | h11 | h12 | h13 | h14 | h15 | h16 | h17 | h18 | h19=>((simp (disch:=first | decide | omega | (simp only [nx];first | done | omega)) only [go_sem,q2,q8,q12,hget,hi,sp_frm,hb,w2,cv_u8,Option.map_some,hln,hrem,hg2,hm2,rv_name,hnm,l32,hz];(repeat with_reducible refine aI ?_));first | done | exact rfl | omega)))
   (have F:=pk5 @q2 @q12 @hget @hi @sp_lens;refine stq F 19 ?_;refine stq F 20 ?_;refine stq F 21 ?_;refine stq F 22 ?_;refine stq F 23 ?_;clear F)
   (refine s_one 24 ?_;(refine dd0 ?_))
   refine DCalls.mono (DCalls.wf (add_d hrU hci (by omega) ms[i].name _ ms[i].lens hx.2 hx.1)) ?_
   rintro d T2 ⟨⟨rfl,F3,hr3,hF3,hfr3⟩,hT2⟩
   (refine s_done (by kernel_rfl) ?_;(refine dd2 @w1 @q12 ?_))
   have hsT2:T.Sub T2:=⟨by have:=hsU.next;have:=hfr3.next;omega,fun j o e=>hfr3.ob _ _ (fun h=>by have:=hF2 _ h;have:=hT.lt e;omega) (hsU.ob _ _ e)⟩
   exact ⟨hi,_,fun _ _ h=>h,by omega,by exact di0,hsT2,F3,by rw [e1];exact hr3,fun x h=>by
    rcases hF3 x h with h | h
    ·exact hF2 x h
    ·have:=hsU.next;omega⟩
  ·obtain rfl:i=ms.length:=by omega
   have b1:decide ((ms.length:Int)<(ms.length:Int))=false:=decide_eq_false (by omega)
   (refine dd4 @q2 @q12 @b1 @q10 ?_)
   have hrO:=hr.sub hsU
   generalize cpV vs ms ms.length=vc at *
   have hcw:=hci.wf
   refine go_at (versions_dt hrU hci.pos (by omega)) ?_
   (refine dd1 @q7 ?_)
   refine go_at (versions_dt hrO hpos (by omega)) ?_
   (refine dd1 @q11 ?_)
   refine DCalls.of_pure (hashes_d .no .no _ _ (by rw [List.length_map];omega)) ?_
   rw [decide_eq_true (rfl:vs.map (·.name)=vs.map (·.name))]
   have hcn:=names_len vc
   have hle:=hcx.length_le
   have b2:decide ((vc.length:Int)<(vs.length:Int))=false:=decide_eq_false (by omega)
   have htk:((vc.map (·.name)).map encH).take vs.length=(vs.map (·.name)).map encH:=by
    obtain ⟨t,rfl⟩:=hcx
    rw [List.map_append,List.map_append,List.take_append_of_le_length (by simp),List.take_of_length_le (by simp)]
   (refine dd5 @q11 @hnl @hcn @b2 @htk ?_)
   refine ⟨⟨by omega,.inl trivial⟩,?_⟩
   refine DCalls.of_pure (hashes_d .no .no _ _ (by rw [List.length_map];omega)) ?_
   rw [decide_eq_true (rfl:vs.map (·.name)=vs.map (·.name))]
   (refine dd0 ?_)
   refine dloop_up (fun t=>List.contains [6,14,15,16,17,18,108,109,110,111,112,113,114,115,116,117,118,119,120,121,122,123,124,125,126,127,128,129,130,131,132,133,134,135,136,137,138,139,140,141,142,143,144,145,146,147,148,149,150,151,152,153,154,155,156,157,158,159,160,161] t) (by kernel_rfl) hU vs.length (fun i q V=>i≤vs.length∧q 14=.v (.int .i64 ((i:Nat):Int))∧U.Sub V) ⟨Nat.zero_le _,by exact di0,St.Sub.refl _⟩ ?_
   rintro i q' V hV hgb ⟨lei,q14,hsV⟩
   (have q7b:=hgb 7 rfl;have q10b:=hgb 10 rfl;have q11b:=hgb 11 rfl;have q13b:=hgb 13 rfl;simp (disch:=first | decide | omega | (simp only [nx];first | done | omega)) only [go_sem,q7,q10,q11] at q7b q10b q11b q13b;clear hgb)
   have hrV:=hrO.sub hsV
   have hcV:=hrU.sub hsV
   by_cases hi:i<vs.length
   ·have b3:decide ((i:Int)<(vs.length:Int))=true:=decide_eq_true (by omega)
    have w1:IntKind.i64.wrap ((i:Int)+1)=((i+1:Nat):Int):=IntWalk.i64_in _ ⟨by omega,by omega⟩
    have gn:=names_nm hi
    have li:=(nmAt vs i).2
    have hic:i<vc.length:=by omega
    have hvi:vc[i]=vs[i]:=(hcx.getElem hi).symm
    have hni:nmAt vc i=nmAt vs i:=by rw [nmAt_lt hic,nmAt_lt hi,hvi]
    have lS2:=cells_encS vs[i].sch
    have aSS:D.agg (encS vs[i].sch).cells=encS vs[i].sch:=by rw [encS_eq];rfl
    have hx:=hv.sch _ (List.getElem_mem hi)
    (refine dd7 @q7b @q11b @q14 @hnl @b3 @gn @li ?_)
    refine go_at (schema_sc hrV hv hi).at ?_
    (refine dd1 @lS2 ?_)
    generalize hX:St.set (St.add V _) _ _=V1
    have hs1:V.Sub V1:=by rw [← hX];exact ((St.Sub.refl V).add hV _).set hV (Nat.le_refl _) _
    have hW1:V1.WF:=by rw [← hX];exact (hV.add _).set (Nat.lt_succ_self _) _
    have b15:V1.ob V.next=some (.box 25 (encS vs[i].sch).cells):=by rw [← hX];exact di0
    clear hX
    have hsc:=(schema_sc (hcV.sub hs1) hci hic).at
    rw [hni,hvi] at hsc
    (refine dd6 @q10b @q11b @q14 @gn @li @hnl ?_)
    refine go_at hsc ?_
    (refine dd1 @lS2 ?_)
    generalize hX:St.set (St.add V1 _) _ _=V2
    have hs2:V1.Sub V2:=by rw [← hX];exact ((St.Sub.refl V1).add hW1 _).set hW1 (Nat.le_refl _) _
    have hW2:V2.WF:=by rw [← hX];exact (hW1.add _).set (Nat.lt_succ_self _) _
    have b17:V2.ob V1.next=some (.box 25 (encS vs[i].sch).cells):=by rw [← hX];exact di0
    clear hX
    have b15:=hs2.ob _ _ b15
    have hsVV:=hs1.trans hs2
    (refine dd4 @b15 @b17 @lS2 @aSS ?_)
    refine DCalls.of_pure (refSS _ hx.1) ?_
    (refine dd6 @q7b @q11b @q14 @gn @li @hnl ?_)
    refine go_at (out_st (hrV.sub hsVV) hw (by omega) hi).at ?_
    have hol:=outW_len hw hi
    have hoc:=outW_len hcw hic
    have w2:IntKind.i64.wrap ((vs.length:Int) - 1)=(((outW vs i).length:Nat):Int):=by rw [show (vs.length:Int) - 1=(((outW vs i).length:Nat):Int) by omega];exact IntWalk.i64_in _ ⟨by omega,by omega⟩
    have w3:IntKind.i64.wrap ((vc.length:Int) - 1)=(((outW vc i).length:Nat):Int):=by rw [show (vc.length:Int) - 1=(((outW vc i).length:Nat):Int) by omega];exact IntWalk.i64_in _ ⟨by omega,by omega⟩
    have hso:=(out_st (hcV.sub hsVV) hcw (by omega) hic).at
    rw [hni] at hso
    (refine dd8 @q10b @q11b @q14 @gn @li @hnl @w2 @bne_self_eq_false.{0} ?_)
    refine go_at hso ?_
    (refine dd6 @q13b @q14 @hcn @w1 @w3 @bne_self_eq_false.{0} ?_)
    exact ⟨hi,_,fun _ _ h=>h,by omega,by exact di0,hsV.trans hsVV⟩
   ·obtain rfl:i=vs.length:=by omega
    have b3:decide ((vs.length:Int)<(vs.length:Int))=false:=decide_eq_false (by omega)
    (refine dd4 @q11b @q14 @hnl @b3 ?_)
    refine DCalls.of_pure awake20_d ?_
    (refine dd0 ?_)
    exact ⟨rfl,⟨Nat.zero_le _,fun _ _ h=>by cases h⟩⟩
 ·rw [if_neg hR] at hd
  obtain ⟨rfl,hsT⟩:=hd
  have e0:(((0:Nat):Int) == 0)=true:=by decide
  (refine dd1 @e0 ?_)
  refine DCalls.of_pure awake20_d ?_
  (refine dd0 ?_)
  exact ⟨rfl,⟨Nat.zero_le _,fun _ _ h=>by cases h⟩⟩
end
end Go.Proofs.YtogbklnkpjjkoaaGreatDoor
namespace Go.Proofs.YtogbklnkpjjkoaaGreatDoor
open Go.ChangeShapes Go.WideShapes Go.ChangeAt Go.RowKit
set_option maxRecDepth 100000 in
theorem registryCopies_lifted (os:Os) (started:os.Started) (H:Type) (enc:TypeId × Value→H) :
  ReturnsInHanded {} Tryz.checked os 5 .any (fun w args=>(Rows.registryCopiesSpec.pre enc Tryz.prog Tryz.f5 [] false w args∧laidMetH Tryz.prog doorLaid w)∧sizedMet enc Tryz.prog Tryz.f5 (OpenSpec.ofChange Rows.registryCopiesSpec) false w args)
   (Rows.registryCopiesSpec.post enc Tryz.prog Tryz.f5 false true false false):=by
 refine returnsInHanded_of_change_and (C:=Tryz.checked) (X:=fun w _=>laidMetH Tryz.prog doorLaid w) (fun _ _ _ hh h=>h.of_heap hh) door_own started (by kernel_rfl) Tryz.func5
  (ChangeSpec.witness_at (enc:=enc) (C:=Tryz.checked) (os:=os) (X:=fun w _=>laidMetH Tryz.prog doorLaid w) false (laidWorld os) #[.agg #[.int .i64 0,.slice none 0 0,.slice none 0 0],.slice none 0 0,.slice none 0 0] 8 rfl (by kernel_rfl) (by kernel_rfl) (by kernel_rfl) (by kernel_rfl) (by kernel_rfl) (laidWorld_met os _)) ?_
 intro W base args ds gs before hval0 hW hcnd hsz0 hL _
 have hG:=glob_of_laid hL
 have hval:∀ (j:Nat) t v,Tryz.f5.params[j]? = some t→args[j]? = some v→Value.okWide Tryz.prog W .any base t v:=hval0
 have hsz:(DataW.weightsEach Tryz.prog (Tryz.f5.params.toList++Rows.registryCopiesSpec.plain.varTypes Tryz.prog) (ds++gs)).all (·≤reachBytes)=true:=hsz0
 have hW':=hW
 obtain ⟨p,q,hA0,hV,rfl,hfz,hnd⟩:=hW
 have hA:DataW.TrodAll enc Tryz.prog W 0 (fun _=>true) true Tryz.f5.params.toList args.toList ds p:=hA0
 obtain ⟨rfl,rfl⟩:=trodVars_none hV
 rw [Tryz.params5] at hA hval hsz
 have hA1:=hA
 obtain ⟨v0,vs0,d0,ds0,p0,q0,hargs,rfl,rfl,h0,r0⟩:=trodAll_cons hA
 obtain ⟨v1,vs1,d1,ds1,p1,q1,rfl,rfl,rfl,h1,r1⟩:=trodAll_cons r0
 obtain ⟨v2,vs2,d2,ds2,p2,q2,rfl,rfl,rfl,h2,r2⟩:=trodAll_cons r1
 obtain ⟨rfl,rfl,rfl⟩:=trodAll_nil r2
 obtain rfl:args=#[v0,v1,v2]:=by cases args;simp_all
 have z0:Sized Tryz.prog 25 d0:=sized_of_each (j:=0) hsz rfl rfl
 have k0:Value.okWide Tryz.prog W .any base 25 v0:=hval 0 _ _ rfl rfl
 have z1:Sized Tryz.prog 26 d1:=sized_of_each (j:=1) hsz rfl rfl
 have k1:Value.okWide Tryz.prog W .any base 26 v1:=hval 1 _ _ rfl rfl
 have z2:Sized Tryz.prog 26 d2:=sized_of_each (j:=2) hsz rfl rfl
 have k2:Value.okWide Tryz.prog W .any base 26 v2:=hval 2 _ _ rfl rfl
 clear hA0 hval0 hsz hsz0 hval
 have key:Calls Tryz.prog 5 #[v0,v1,v2] W (Gives (.bool true) W):=by
  obtain ⟨s,cs,rfl,hs⟩:=open_schema h0 z0 k0
  obtain ⟨l,hlo,hll,hl⟩:=open_sps h1 z1 k1
  obtain ⟨m,hmo,hml,hm⟩:=open_sps h2 z2 k2
  exact door_gives (vs:=[.agg cs.toArray,v1,v2]) (copies_d s l m hs.ok hll hlo hml hmo) (by simp only [RepL];exact ⟨_,_,rfl,rep_sch (fun b i _=>fix_nilD b i) hs,_,_,rfl,hl _ _ fix_nilD,_,_,rfl,hm _ _ fix_nilD,rfl⟩) (by intro _ _;kernel_rfl) hG
 refine key.mono fun e W' ⟨he,bel⟩=>?_
 subst he
 exact ⟨_,rfl,_,_,_,[],_,[],hW',trodAll_mk1 (shut_bool Tryz.underlying4 _),trodAll_below door_laidOut bel (by kernel_rfl) hA1,rfl,bel.frame _,fun h=>by cases h⟩

theorem registryCopies_row:Rows.RegistryCopiesSaid :=
 OpenClaim.holds_of_wide 5 Tryz.f5 rfl rfl rfl rfl rfl rfl rfl ⟨rfl,rfl,rfl,rfl,rfl⟩ rfl rfl rfl rfl rfl (by kernel_rfl) Tryz.func5 (by kernel_rfl)
  (of_decide_eq_true (by kernel_rfl)) (by unfold Func.isWrapper;first | (rw [if_pos (by decide +kernel)];kernel_rfl) | (rw [if_neg (by decide +kernel)];exact ⟨rfl,rfl⟩))
  (fun os started H enc _=>registryCopies_lifted os started H enc)
theorem registryCopies_holds:Rows.RegistryCopiesCardSaid :=
 Claim7.holds_tied_plain_at .later [] [.handle] true Rows.registryCopiesCard.stood.harness true
  registryCopies_row (fun _ h=>by cases h) (by kernel_rfl) (fun _ h=>by cases h) registryCopies_row_tie rfl ⟨rfl,rfl⟩ (by kernel_rfl) rfl
  (fun f fn hf hfn=>by
   obtain rfl:f=5:=Option.some.inj ((show Tryz.prog.funcNamed "dioptre/dioptrelaw20.RegistryCopies" = some 5 by kernel_rfl).symm.trans hf) |>.symm
   obtain rfl:fn=Tryz.f5:=(Option.some.inj (Tryz.func5.symm.trans hfn)).symm
   exact ⟨by kernel_rfl,fun j t ht=>by
    rw [Tryz.params5] at ht
    have ht':=List.mem_of_getElem? (Array.getElem?_toList ▸ ht)
    simp only [List.mem_cons,List.not_mem_nil,or_false] at ht'
    rcases ht' with rfl | rfl | rfl <;> exact (show Tryz.prog.wantsStandIn _=false by kernel_rfl)⟩)
  (by kernel_rfl)
#print axioms registryCopies_holds
end Go.Proofs.YtogbklnkpjjkoaaGreatDoor
