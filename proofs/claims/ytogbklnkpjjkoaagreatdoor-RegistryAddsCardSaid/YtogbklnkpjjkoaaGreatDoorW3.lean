/- Texts of a proof, part 3. Conditions: none. -/
import Derived.Test.YtogbklnkpjjkoaaGreatDoorW2
import Derived.Deep.AppendSrc
import Derived.Deep.Upon
import Derived.Laws.CopyRow
import Derived.Laws.CopyOwn
set_option linter.unusedVariables false
set_option linter.unusedSimpArgs false
namespace Go.Proofs.YtogbklnkpjjkoaaGreatDoor
open Go.RowKit

def pureRun {α:Type} (P:Program):Sem α→Option α
 | .pure a=>some a
 | .program k=>pureRun P (k P)
 | .mark _ k=>pureRun P k
 | _=>none
theorem pureRun_run {α:Type} {P:Program} {s:Sem α} {x:α} (w:World) (h:pureRun P s=some x):s.run P w=.ok x w:=by
 induction s with
 | pure a=>simp [pureRun] at h;subst h;rfl
 | program k ih=>simp only [pureRun] at h;simp only [Sem.run];exact ih _ h
 | mark m k ih=>simp only [pureRun] at h;simp only [Sem.run];exact ih h
 | _=>simp [pureRun] at h

def ofV0:Value→D
 | .slice none 0 0=>.sl .full []
 | x=>.v x
def ofV:Value→D
 | .slice none 0 0=>.sl .full []
 | .agg xs=>bif xs.toList.all Value.oneCell' then .agg (xs.toList.map ofV0) else .v (.agg xs)
 | x=>.v x
abbrev Fm:=Nat→D
def put (f:Fm):Option Tmp→D→Fm
 | none,_=>f
 | some t,d=>fun i=>bif Nat.beq i t then d else f i
def ev (f:Fm):Operand→D
 | .tmp t=>f t
 | .const v=>ofV v
 | .global g=>.v (.pointer (some ⟨g,0,none⟩))
 | .func g=>.fn (.func g) [] []
def okT (P:Program) (t:TypeId):Bool:=(P.underlying t).isSome && (P.info? t).isSome
def aggT (P:Program) (t:TypeId):Bool:=match P.underlying t with
 | some (.struct _) | some (.array _ _)=>true
 | _=>false
def fld (P:Program) (t:TypeId) (i:Nat):Option (Nat × TypeId):=match P.underlying t with
 | some (.struct fs)=>(fs[i]?).map fun f=>(f.offset,f.type)
 | _=>none
def elT (P:Program) (t:TypeId):Option TypeId:=match P.underlying t with
 | some (.slice e)=>some e
 | _=>none
def arT (P:Program) (t:TypeId):Option (Nat × TypeId):=match P.underlying t with
 | some (.array n e)=>some (n,e)
 | _=>none
def strT (P:Program) (t:TypeId):Bool:=match P.underlying t with
 | some .string=>true
 | _=>false
def u8T (P:Program) (t:TypeId):Bool:=match P.underlying t with
 | some (.int .u8)=>true
 | _=>false
def bD (b:UInt8):D:=.v (.int .u8 b.toNat)
def bOf:D→UInt8
 | .v (.int .u8 n)=>n.toNat.toUInt8
 | _=>0
def bytesD (es:List D):List UInt8:=es.map bOf
def ptrT (P:Program) (t:TypeId):Bool:=match P.underlying t with
 | some (.pointer _)=>true
 | _=>false
def ifaceT (P:Program) (t:TypeId):Bool:=match P.underlying t with
 | some (.interface _)=>true
 | _=>false
def rdOk (P:Program) (t:TypeId) (cs:List D) (off:Nat):Prop:=okT P t=true∧(bif aggT P t then off+szOf P t≤cs.length else off<cs.length)
def rdVal (P:Program) (t:TypeId) (cs:List D) (off:Nat):D:=bif aggT P t then .agg ((cs.drop off).take (szOf P t)) else cs.getD off undefD

def bnd (f:Fm) (o:Option Operand) (d:Int):Option Int:=match o with
 | none=>some d
 | some x=>match ev f x with
  | .v (.int _ i)=>some i
  | _=>none
def Own.tail:Own→Own
 | .full=>.full
 | _=>.no
def slOwn (own:Own) (hi:Option Operand):Own:=match hi with
 | none=>own.tail
 | some _=>.no
def winOff (c l off z:Nat):Nat:=bif Nat.beq c l then off else off+l * z
theorem winOff_zero (c off z:Nat):winOff c 0 off z=off:=by unfold winOff;cases Nat.beq c 0 <;> simp
theorem winOff_lt {c l off z:Nat} (h:l<c):winOff c l off z=off+l * z:=by
 unfold winOff
 cases hb:Nat.beq c l with
 | false=>rfl
 | true=>have:=Nat.eq_of_beq_eq_true hb;omega
def vals:List D→Option (List Value)
 | []=>some []
 | .v x::l=>(vals l).map (x::·)
 | _=>none
def isConstB:Operand→Bool
 | .const _=>true
 | _=>false
def cellEq:Value→Value→Bool
 | .string a,.string b=>a.toList == b.toList
 | .int _ a,.int _ b=>a == b
 | .bool a,.bool b=>a == b
 | _,_=>false
def valsEq:List Value→List Value→Bool
 | [],[]=>true
 | a::l,b::m=>cellEq a b && valsEq l m
 | _,_=>false
def EqOk (P:Program) (op:BinOp) (t:TypeId) (x y:Operand) (us vs:List Value) (r:Bool):Prop:=∀ w,(do eqGuard op t x y (.agg us.toArray) (.agg vs.toArray);binOp op t (.agg us.toArray) (.agg vs.toArray):Sem Value).run P w=.ok (.bool r) w
def dbinA (P:Program) (op:BinOp) (t:TypeId) (x y:Operand):Option (List Value)→Option (List Value)→Option (Prop × D)
 | some us,some vs=>match op with
  | .eql=>some (EqOk P .eql t x y us vs (valsEq us vs),.v (.bool (valsEq us vs)))
  | .neq=>some (EqOk P .neq t x y us vs (!valsEq us vs),.v (.bool (!valsEq us vs)))
  | _=>none
 | _,_=>none
def ifcB (t1:TypeId) (a:D) (t2:TypeId) (b:D):Bool:=t1 == t2 && (match a,b with | .v p,.v q=>valsEq [p] [q] | _,_=>false)
def IfcEq (P:Program) (t:TypeId) (x y:Operand) (t1:TypeId) (a:D) (t2:TypeId) (b:D):Prop :=
 ∀ w η X u v,Rep P w η X a u→Rep P w η X b v→(do eqGuard .eql t x y (.iface t1 u) (.iface t2 v);binOp .eql t (.iface t1 u) (.iface t2 v):Sem Value).run P w=.ok (.bool (ifcB t1 a t2 b)) w
def isNilC:Operand→Bool
 | .const (.slice none 0 0)=>true
 | _=>false
theorem isNilC_spec {y:Operand} (h:isNilC y=true):y=.const (.slice none 0 0):=by
 unfold isNilC at h
 split at h
 ·rfl
 ·cases h
def nilCmp (P:Program) (op:BinOp) (t:TypeId) (c:Prop):Option (Prop × D):=match op with
 | .eql=>some ((elT P t).isSome=true∧c,.v (.bool false))
 | .neq=>some ((elT P t).isSome=true∧c,.v (.bool true))
 | _=>none
def dbin (P:Program) (op:BinOp) (t:TypeId) (x y:Operand) (a b:D):Option (Prop × D):=match a,b with
 | .agg cs,.agg ds=>dbinA P op t x y (vals cs) (vals ds)
 | .v a,.v b=>(pureRun P (do eqGuard op t x y a b;binOp op t a b)).map fun r=>(True,.v r)
 | .ifc _ _,.v .nilIface | .v .nilIface,.ifc _ _=>match op with
  | .eql=>some (ifaceT P t=true,.v (.bool false))
  | .neq=>some (ifaceT P t=true,.v (.bool true))
  | _=>none
 | .loc _ _,.v (.pointer none)=>match op with
  | .eql=>some (ptrT P t=true,.v (.bool false))
  | .neq=>some (ptrT P t=true,.v (.bool true))
  | _=>none
 | .rd _ _,.v (.pointer none)=>match op with
  | .eql=>some (ptrT P t=true,.v (.bool false))
  | .neq=>some (ptrT P t=true,.v (.bool true))
  | _=>none
 | .ifc t1 a,.ifc t2 b=>match op with
  | .eql=>some (IfcEq P t x y t1 a t2 b,.v (.bool (ifcB t1 a t2 b)))
  | _=>none
 | .v u,.sl .full []=>bif isNilC y then (pureRun P (do eqGuard op t x y u (.slice none 0 0);binOp op t u (.slice none 0 0))).map fun r=>(True,.v r) else none
 | .sl _ es,.sl .full []=>bif isNilC y then nilCmp P op t (0<es.length) else none
 | .win _ _ n _,.sl .full []=>bif isNilC y then nilCmp P op t (0<n) else none
 | _,_=>none
def dlen (P:Program) (b:Builtin) (ts:Array TypeId) (a:List D):Option (Prop × D):=match b,a with
 | .len,[.sl _ es]=>some ((ts[0]?.bind (elT P)).isSome=true,.v (.int .i64 es.length))
 | .len,[.win _ _ n _]=>some ((ts[0]?.bind (elT P)).isSome=true,.v (.int .i64 n))
 | .cap,[.sl .full es]=>some ((ts[0]?.bind (elT P)).isSome=true,.v (.int .i64 es.length))
 | .cap,[.win _ _ _ c]=>some ((ts[0]?.bind (elT P)).isSome=true,.v (.int .i64 c))
 | _,_=>none
def dbuiltin (P:Program) (b:Builtin) (ts:Array TypeId) (ty:TypeId) (cs:Array Bool) (a:List D):Option (Prop × D):=match vals a with
 | some vs=>match pureRun P (builtin b ts ty cs vs.toArray) with
  | some (.value r)=>some (True,.v r)
  | _=>dlen P b ts a
 | none=>dlen P b ts a

def dval (P:Program) (f:Fm) (S:St) (ty:TypeId):Op→Option (Prop × D)
 | .move x | .assign x=>some (True,ev f x)
 | .pick c a b=>match ev f c with
  | .v (.bool t)=>some (True,bif t then ev f a else ev f b)
  | _=>none
 | .load t a=>match ev f a with
  | .loc k off=>match S.ob k with
   | some (.box _ cs)=>some (rdOk P t cs off,rdVal P t cs off)
   | _=>none
  | .rd cs off=>some (rdOk P t cs off,rdVal P t cs off)
  | .v (.pointer (some a))=>match globAt a.block with
   | some d=>some (a=⟨a.block,0,none⟩∧okT P t=true∧aggT P t=false,d)
   | none=>none
  | _=>none
 | .fieldAddr t x i=>match fld P t i with
  | some (fo,ft)=>match ev f x with
   | .loc k off=>some (okT P ft=true∧szOf P ft ≠ 0,.loc k (off+fo))
   | .rd cs off=>some (okT P ft=true∧szOf P ft ≠ 0,.rd cs (off+fo))
   | _=>none
  | none=>none
 | .field t x i=>match fld P t i with
  | some (fo,ft)=>match ev f x with
   | .agg cs=>some (rdOk P ft cs fo,rdVal P ft cs fo)
   | _=>none
  | none=>none
 | .indexAddr t x ix=>match ev f ix with
  | .v (.int _ i)=>match ev f x with
   | .sl _ es=>match elT P t with
    | some e=>some (okT P e=true∧0≤i∧i<es.length∧(es.getD i.toNat undefD).width=szOf P e,.rd (es.getD i.toNat undefD).cells 0)
    | none=>none
   | .win k off n _=>match elT P t with
    | some e=>some (okT P e=true∧0≤i∧i<n,.loc k (off+i.toNat * szOf P e))
    | none=>none
   | .loc k off=>match arT P t with
    | some (n,e)=>some (okT P e=true∧0≤i∧i<n,.loc k (off+i.toNat * szOf P e))
    | none=>none
   | .rd cs off=>match arT P t with
    | some (n,e)=>some (okT P e=true∧0≤i∧i<n,.rd cs (off+i.toNat * szOf P e))
    | none=>none
   | _=>none
  | _=>none
 | .index t x ix=>match ev f ix with
  | .v (.int _ i)=>match ev f x with
   | .agg cs=>match arT P t with
    | some (n,e)=>some (0≤i∧i<n∧rdOk P e cs (i.toNat * szOf P e),rdVal P e cs (i.toNat * szOf P e))
    | none=>none
   | .v (.string s)=>some (strT P t=true∧0≤i∧i<s.size,.v (.int .u8 (s.data.toList.getD i.toNat 0).toNat))
   | _=>none
  | _=>none
 | .extract x i=>match ev f x with
  | .tup ds=>some (i<ds.length,ds.getD i undefD)
  | _=>none
 | .makeFunc fn fs cs=>some (True,.fn fn (fs.toList.map (ev f)) (cs.toList.map (ev f)))
 | .makeInterface t x=>some ((P.underlying t).isSome=true∧ifaceT P t=false,.ifc t (ev f x))
 | .nilCheck x=>match ev f x with
  | .loc k off=>some (True,.loc k off)
  | .rd cs off=>some (True,.rd cs off)
  | .fn (.func g) fs cs=>some (True,.fn (.func g) fs cs)
  | _=>none
 | .slice t x lo hi none=>match ev f x with
  | .sl own es=>match elT P t with
   | some e=>match bnd f lo 0 with
    | some l=>match bnd f hi es.length with
     | some h=>some (okT P e=true∧0≤l∧l≤h∧h≤es.length∧(l=0∨∀ d∈es,d.width=szOf P e),.sl (slOwn own hi) ((es.take h.toNat).drop l.toNat))
     | none=>none
    | none=>none
   | none=>none
  | .win k off n c=>match elT P t with
   | some e=>match bnd f lo 0 with
    | some l=>match bnd f hi n with
     | some h=>some (okT P e=true∧0≤l∧l≤h∧h≤c∧h≤140737488355328,.win k (winOff c l.toNat off (szOf P e)) (h.toNat - l.toNat) (c - l.toNat))
     | none=>none
    | none=>none
   | none=>none
  | .v (.string s)=>match bnd f lo 0 with
   | some l=>match bnd f hi s.size with
    | some h=>some (strT P t=true∧0≤l∧l≤h∧h≤s.size,.v (.string (s.extract l.toNat h.toNat)))
    | none=>none
   | none=>none
  | .loc k off=>match arT P t with
   | some (n,e)=>some (okT P e=true∧n≤140737488355328∧lo=none∧hi=none,.win k off n n)
   | none=>none
  | _=>none
 | .slice t x lo hi (some mx)=>match ev f x with
  | .sl _ es=>match elT P t with
   | some e=>match bnd f lo 0 with
    | some l=>match bnd f hi es.length with
     | some h=>match bnd f (some mx) 0 with
      | some m=>some (okT P e=true∧0≤l∧l≤h∧h=m∧h≤es.length∧hi.isSome=true∧(l=0∨∀ d∈es,d.width=szOf P e),.sl .full ((es.take h.toNat).drop l.toNat))
      | none=>none
     | none=>none
    | none=>none
   | none=>none
  | .win k off n c=>match elT P t with
   | some e=>match bnd f lo 0 with
    | some l=>match bnd f hi n with
     | some h=>match bnd f (some mx) 0 with
      | some m=>some (okT P e=true∧0≤l∧l≤h∧h≤m∧m≤c∧h≤140737488355328∧hi.isSome=true,.win k (winOff m.toNat l.toNat off (szOf P e)) (h.toNat - l.toNat) (m.toNat - l.toNat))
      | none=>none
     | none=>none
    | none=>none
   | none=>none
  | _=>none
 | .binOp op t x y _=>dbin P op t x y (ev f x) (ev f y)
 | .unOp op _ x=>match ev f x with
  | .v a=>(pureRun P (Op.unary op a)).map fun r=>(True,.v r)
  | _=>none
 | .convert s d x=>match ev f x with
  | .v a=>(pureRun P (convert s d a)).map fun r=>(True,.v r)
  | .sl _ es=>match elT P s with
   | some e=>some (u8T P e=true∧strT P d=true∧es=(bytesD es).map bD,.v (.string ⟨(bytesD es).toArray⟩))
   | none=>none
  | _=>none
 | .call c=>match c.callee with
  | .builtin b=>dbuiltin P b c.argTypes ty (c.args.map isConstB) (c.args.toList.map (ev f))
  | _=>none
 | _=>none

/-! ### That the machine yields it -/
section
variable {P : Program} {w : World} {η : Names} {X : Nat → Nat → Prop} {f : Fm} {a : Act} {S : St} {base : Nat}
theorem Rep.ofV0 (x:Value):Rep P w η X (ofV0 x) x:=by
 unfold Go.Proofs.YtogbklnkpjjkoaaGreatDoor.ofV0
 split
 ·simp only [Rep]
  exact ⟨none,0,rfl,Nat.le_refl _,by simp,rfl,fun h=>absurd h (by simp)⟩
 ·simp only [Rep]
theorem RepL.ofV0:∀ l:List Value,RepL P w η X (l.map Go.Proofs.YtogbklnkpjjkoaaGreatDoor.ofV0) l
 | []=>by simp only [List.map_nil,RepL]
 | x::l=>by simp only [List.map_cons,RepL];exact ⟨x,l,rfl,Rep.ofV0 x,RepL.ofV0 l⟩
theorem Rep.ofV (x:Value):Rep P w η X (ofV x) x:=by
 unfold Go.Proofs.YtogbklnkpjjkoaaGreatDoor.ofV
 split
 ·simp only [Rep]
  exact ⟨none,0,rfl,Nat.le_refl _,by simp,rfl,fun h=>absurd h (by simp)⟩
 ·rename_i xs
  by_cases hx:xs.toList.all Value.oneCell'=true
  ·rw [hx,cond_true]
   simp only [Rep]
   exact ⟨xs.toList,rfl,RepL.ofV0 _,fun y hy=>List.all_eq_true.1 hx y hy⟩
  ·rw [Bool.not_eq_true] at hx
   rw [hx,cond_false]
   simp only [Rep]
 ·simp only [Rep]
def RepF (P:Program) (w:World) (η:Names) (X:Nat→Nat→Prop) (f:Fm) (a:Act):Prop:=∀ t,t<a.tmps.size→Rep P w η X (f t) (a.tmps.getD t undef)
def opnOk (n:Nat):Operand→Bool
 | .tmp t=>Nat.blt t n
 | _=>true
theorem RepF.ev (h:RepF P w η X f a) {x:Operand} (hx:opnOk a.tmps.size x=true):Rep P w η X (ev f x) (a.eval x):=by
 cases x with
 | tmp t=>exact h t (by simpa [opnOk,Nat.blt_eq] using hx)
 | const v=>exact Rep.ofV v
 | global g=>simp only [Proofs.YtogbklnkpjjkoaaGreatDoor.ev,Rep];rfl
 | func g=>simp only [Proofs.YtogbklnkpjjkoaaGreatDoor.ev,Rep,RepL];exact ⟨[],[],rfl,rfl,rfl⟩
theorem RepF.put (h:RepF P w η X f a) {d:D} {v:Value} (hd:Rep P w η X d v) (o:Option Tmp):RepF P w η X (put f o d) (a.put o v):=by
 cases o with
 | none=>exact h
 | some t =>
  intro i hi
  have hi':i<a.tmps.size:=by simpa [Act.put] using hi
  simp only [Proofs.YtogbklnkpjjkoaaGreatDoor.put,Act.put]
  by_cases e:i=t
  ·subst e
   simpa [Nat.beq_eq_true_eq,hi'] using hd
  ·have hb:Nat.beq i t=false:=by
    cases h:Nat.beq i t with
    | false=>rfl
    | true=>exact absurd (Nat.eq_of_beq_eq_true h) e
   have:=h i hi'
   simpa [hb,Array.getElem?_setIfInBounds_ne (Ne.symm e)] using this
theorem okT_spec {t:TypeId} (h:okT P t=true):∃ d i,P.underlying t=some d∧P.info? t=some i∧szOf P t=i.size:=by
 simp only [okT,Bool.and_eq_true,Option.isSome_iff_exists] at h
 obtain ⟨⟨d,hd⟩,i,hi⟩:=h
 exact ⟨d,i,hd,hi,by simp [szOf,hi]⟩
theorem aggT_spec {t:TypeId} {d:TypeDesc} (h:P.underlying t=some d):aggT P t=d.isRow:=by
 unfold aggT
 rw [h]
 cases d <;> rfl
theorem run_load_cells {t:TypeId} {cs:List D} {b o off:Nat} (hok:rdOk P t cs off) (h:RepC P w η X cs b o) :
  ∃ v,(Instr.loadAt t (.pointer (some ⟨b,o+off,none⟩))).run P w=.ok v w∧Rep P w η X (rdVal P t cs off) v:=by
 obtain ⟨h1,h2⟩:=hok
 obtain ⟨d,i,hu,hi,hsz⟩:=okT_spec h1
 cases hg:aggT P t with
 | true =>
  simp only [hg,cond_true] at h2
  obtain ⟨vs,k1,k2,k3,k4⟩:=((h.drop off).take (szOf P t)).range
  have hl:vs.length=szOf P t:=by rw [k1,List.length_take,List.length_drop];omega
  refine ⟨.agg vs.toArray,run_loadAt_mid w b (o+off) t vs d k2 hu (by rw [← aggT_spec hu,hg]) (by rw [hi];simp [hl,hsz]),?_⟩
  simp only [rdVal,hg,cond_true,Rep]
  exact ⟨vs,rfl,k3,k4⟩
 | false =>
  simp only [hg,cond_false] at h2
  have hdr:=h.drop off
  rw [List.drop_eq_getElem_cons h2] at hdr
  simp only [RepC] at hdr
  obtain ⟨⟨_,x,hx,_,hr⟩,_⟩:=hdr
  refine ⟨x,?_,?_⟩
  ·have hn:=aggT_spec hu
   rw [hg] at hn
   have hagg:(isAgg t).run P w=.ok false w:=by
    unfold isAgg
    rw [Sem.run_bind,run_underlying hu w]
    cases d <;> simp_all
   simp [Instr.loadAt,Instr.sureAddr,loadVar,Sem.run_bind,hagg,load,Sem.run,hx]
  ·simp only [rdVal,hg,cond_false]
   rw [List.getD_eq_getElem?_getD,List.getElem?_eq_getElem h2]
   exact hr
theorem run_part_cells {t:TypeId} {cs:List D} {vs:List Value} {off:Nat} (hok:rdOk P t cs off) (h:RepL P w η X cs vs) (h1:∀ x∈vs,x.oneCell'=true) :
  ∃ v,(part t vs.toArray off).run P w=.ok v w∧Rep P w η X (rdVal P t cs off) v:=by
 obtain ⟨h1',h2⟩:=hok
 obtain ⟨d,i,hu,hi,hsz⟩:=okT_spec h1'
 have hl:=h.length
 have hn:=aggT_spec hu
 have hagg:(isAgg t).run P w=.ok (aggT P t) w:=by
  unfold isAgg
  rw [Sem.run_bind,run_underlying hu w]
  rw [hn]
  cases d <;> rfl
 cases hg:aggT P t with
 | true =>
  simp only [hg,cond_true] at h2
  refine ⟨.agg ((vs.drop off).take (szOf P t)).toArray,?_,?_⟩
  ·rw [hg] at hagg
   simp [part,Sem.run_bind,hagg,sizeOf,typeInfo,hi,hsz]
  ·simp only [rdVal,hg,cond_true,Rep]
   exact ⟨_,rfl,(h.drop off).take _,fun x hx=>h1 x (List.mem_of_mem_drop (List.mem_of_mem_take hx))⟩
 | false =>
  simp only [hg,cond_false] at h2
  obtain ⟨x,hx,hr⟩:=h.get off (List.getElem?_eq_getElem h2)
  refine ⟨x,?_,?_⟩
  ·rw [hg] at hagg
   have hlt:off<vs.length:=by omega
   rw [List.getElem?_eq_getElem hlt] at hx
   simp [part,Sem.run_bind,hagg,hx,List.getElem?_eq_getElem hlt]
  ·simp only [rdVal,hg,cond_false]
   rw [List.getD_eq_getElem?_getD,List.getElem?_eq_getElem h2]
   exact hr
theorem vals_rep:∀ {l:List D} {vs us:List Value},vals l=some vs→RepL P w η X l us→us=vs
 | [],vs,us,h,k=>by simp only [RepL] at k;simp [vals] at h;rw [k,h]
 | d::l,vs,us,h,k=>by
  simp only [RepL] at k
  obtain ⟨x,xs,rfl,k1,k2⟩:=k
  cases d <;> simp only [vals] at h <;> try (cases h;done)
  rename_i y
  simp only [Rep] at k1
  subst k1
  cases hv:vals l with
  | none=>rw [hv] at h;cases h
  | some ws =>
   rw [hv] at h
   simp at h
   rw [vals_rep hv k2,h]
theorem repL_map (h:RepF P w η X f a):∀ {l:List Operand},(∀ x∈l,opnOk a.tmps.size x=true)→RepL P w η X (l.map (ev f)) (l.map a.eval)
 | [],_=>by simp [RepL]
 | x::l,hx=>by
  simp only [List.map_cons,RepL]
  exact ⟨_,_,rfl,h.ev (hx x (by simp)),repL_map h fun y hy=>hx y (by simp [hy])⟩

theorem elT_spec {t e:TypeId} (h:elT P t=some e):P.underlying t=some (.slice e):=by
 unfold elT at h
 split at h
 ·injection h with h;subst h;assumption
 ·cases h
theorem arT_spec {t e:TypeId} {n:Nat} (h:arT P t=some (n,e)):P.underlying t=some (.array n e):=by
 unfold arT at h
 split at h
 ·injection h with h;injection h with h1 h2;subst h1 h2;assumption
 ·cases h
theorem u8T_spec {t:TypeId} (h:u8T P t=true):P.underlying t=some (.int .u8):=by
 unfold u8T at h
 split at h
 ·assumption
 ·cases h
theorem RepE.bytes {z:Nat} {l:List UInt8} {b o:Nat} (h:RepE P w η X z (l.map bD) b o) {j:Nat} {u:UInt8} (hj:l[j]? = some u):w.cell? ⟨b,o+j,none⟩=some (bv u):=by
 have h0:=RepE.get j (d:=bD u) h (by rw [List.getElem?_map,hj];rfl)
 obtain ⟨hz,_,x,h1,_,h2⟩:=h0.2 rfl
 subst hz
 rw [Nat.mul_one] at h1
 rw [h1]
 simp only [bD,Rep] at h2
 rw [h2]
theorem strT_spec {t:TypeId} (h:strT P t=true):P.underlying t=some .string:=by
 unfold strT at h
 split at h
 ·assumption
 ·cases h
theorem fld_spec {t ft:TypeId} {i fo:Nat} (h:fld P t i=some (fo,ft)):∃ fs fd,P.underlying t=some (.struct fs)∧fs[i]? = some fd∧fd.offset=fo∧fd.type=ft:=by
 unfold fld at h
 split at h
 ·rename_i fs hfs
  cases hx:fs[i]? with
  | none=>rw [hx] at h;cases h
  | some fd =>
   rw [hx] at h
   simp at h
   exact ⟨fs,fd,hfs,hx,h.1,h.2⟩
 ·cases h
theorem run_fieldAt {t ft:TypeId} {i fo b o:Nat} (h:fld P t i=some (fo,ft)) (hok:okT P ft=true∧szOf P ft ≠ 0):(Instr.fieldAt t (.pointer (some ⟨b,o,none⟩)) i).run P w=.ok (.pointer (some ⟨b,o+fo,none⟩)) w:=by
 obtain ⟨fs,fd,h1,h2,h3,h4⟩:=fld_spec h
 obtain ⟨h5,h6⟩:=hok
 obtain ⟨d,ti,h7,h8,h9⟩:=okT_spec h5
 subst h4
 rw [h9] at h6
 simp [Instr.fieldAt,Sem.run_bind,run_underlying h1,h2,Instr.sureAddr,fieldPlace,sizeOf,typeInfo,h8,h6,Addr.add_lit,h3]
theorem run_indexAt_slice {t e:TypeId} {k:IntKind} {i:Int} {b o n c:Nat} (h:elT P t=some e) (he:okT P e=true) (h0:0≤i) (h1:i<n):(Instr.indexAt t (.slice (some ⟨b,o,none⟩) n c) (.int k i)).run P w=.ok (.pointer (some ⟨b,o+i.toNat * szOf P e,none⟩)) w:=by
 have hu:=elT_spec h
 obtain ⟨d,ti,h7,h8,h9⟩:=okT_spec he
 simp [Instr.indexAt,Sem.run_bind,asIntOf,run_underlying hu,h0,h1,sizeOf,typeInfo,h8,h9,Addr.add_lit]
theorem run_indexAt_array {t e:TypeId} {k:IntKind} {i:Int} {b o n:Nat} (h:arT P t=some (n,e)) (he:okT P e=true) (h0:0≤i) (h1:i<n):(Instr.indexAt t (.pointer (some ⟨b,o,none⟩)) (.int k i)).run P w=.ok (.pointer (some ⟨b,o+i.toNat * szOf P e,none⟩)) w:=by
 have hu:=arT_spec h
 obtain ⟨d,ti,h7,h8,h9⟩:=okT_spec he
 simp [Instr.indexAt,Instr.sureAddr,Sem.run_bind,asIntOf,run_underlying hu,h0,h1,sizeOf,typeInfo,h8,h9,Addr.add_lit]
theorem bnd_spec (h:RepF P w η X f a) {o:Option Operand} (ho:∀ x,o=some x→opnOk a.tmps.size x=true) {d i:Int} (hb:bnd f o d=some i):(o=none∧i=d)∨∃ k,o.map a.eval=some (.int k i):=by
 cases o with
 | none=>left;simp [bnd] at hb;exact ⟨rfl,hb.symm⟩
 | some x =>
  right
  have:=h.ev (ho x rfl)
  unfold bnd at hb
  simp only at hb
  split at hb
  ·rename_i k j hx
   rw [hx] at this
   simp only [Rep] at this
   injection hb with hb
   exact ⟨k,by simp [this,hb]⟩
  ·cases hb
theorem run_bounds (h:RepF P w η X f a) {lo hi:Option Operand} (hlo:∀ x,lo=some x→opnOk a.tmps.size x=true) (hhi:∀ x,hi=some x→opnOk a.tmps.size x=true) (isS:Bool) {len cap:Nat} {l m:Int} (hl:bnd f lo 0=some l) (hm:bnd f hi len=some m)
  (h0:0≤l) (h1:l≤m) (h2:m≤cap):(Instr.sliceBounds isS len cap (lo.map a.eval) (hi.map a.eval) none).run P w=.ok (l.toNat,m.toNat,cap) w:=by
 rcases bnd_spec h hlo hl with ⟨rfl,rfl⟩ | ⟨k,e1⟩ <;> rcases bnd_spec h hhi hm with ⟨rfl,rfl⟩ | ⟨k',e2⟩
 ·simp [Instr.sliceBounds]
 ·have:m≤(cap:Int):=by omega
  simp [Instr.sliceBounds,e2,Instr.sliceBound,asIntOf,h1,this]
 ·have:l≤(len:Int):=by omega
  simp [Instr.sliceBounds,e1,Instr.sliceBound,asIntOf,h0,this]
 ·have h4:m≤(cap:Int):=by omega
  have h5:0≤m:=by omega
  have h6:l≤max m 0:=by omega
  simp [Instr.sliceBounds,e1,e2,Instr.sliceBound,asIntOf,h0,h4,h5,h6]
theorem Rep.win_slice {k off n c:Nat} {y:Value} (h:Rep P w η X (.win k off n c) y):∃ A,y=.slice A n c∧n≤c∧n≤140737488355328∧((∃ b,η k=some (some b)∧A=some ⟨b,off,none⟩)∨(η k=some none∧n=0∧c=0)):=by
 simp only [Rep] at h
 rcases h with ⟨b,h1,h2,h3,h4⟩ | ⟨h1,rfl,rfl,A,h4⟩
 ·exact ⟨_,h2,h3,h4,.inl ⟨b,h1,rfl⟩⟩
 ·exact ⟨_,h4,Nat.le_refl _,by omega,.inr ⟨h1,rfl,rfl⟩⟩
theorem rep_win_part {kk off n c l h m z:Nat} {A:Option Addr} (e0:(∃ b,η kk=some (some b)∧A=some ⟨b,off,none⟩)∨(η kk=some none∧n=0∧c=0)) (hm:m≤c) (hlm:l≤m) (h1:h - l≤m - l) (h2:h≤140737488355328):Rep P w η X (.win kk (winOff m l off z) (h - l) (m - l)) (.slice (if m=l then A else A.map (·.add (l * z))) (h - l) (m - l)):=by
 simp only [Rep,winOff]
 rcases e0 with ⟨b,e0,rfl⟩ | ⟨e0,rfl,rfl⟩
 ·refine .inl ⟨b,e0,?_,h1,by omega⟩
  by_cases e:m=l
  ·subst e
   simp
  ·have:Nat.beq m l=false:=by
    cases hb:Nat.beq m l with
    | false=>rfl
    | true=>exact absurd (Nat.eq_of_beq_eq_true hb) e
   rw [if_neg e,this]
   simp [Addr.add_lit]
 ·have e1:m=0:=by omega
  have e2:l=0:=by omega
  subst e1 e2
  exact .inr ⟨e0,by omega,rfl,A,by rw [if_pos rfl];congr 1;omega⟩
theorem Rep.part {A:Option Addr} {n c l h:Nat} {es:List D} {z:Nat} {own:Own} (hz:es.length=n) (h1:l≤h) (h2:h≤n) (hc:n≤c) (hb:n≤140737488355328) (hw:l=0∨∀ d∈es,d.width=z)
  (hE:0<n→∃ b o z,A=some ⟨b,o,none⟩∧0<z∧RepE P w η X z es b o) {m:Nat} (hm:h≤m) (hown:OwnAt P w η (if m=l then A else A.map (·.add (l * z))) (h - l) (m - l) own) :
  Rep P w η X (.sl own ((es.take h).drop l)) (.slice (if m=l then A else A.map (·.add (l * z))) (h - l) (m - l)):=by
 have hlen:((es.take h).drop l).length=h - l:=by rw [List.length_drop,List.length_take];omega
 simp only [Rep]
 refine ⟨_,m - l,by rw [hlen],by omega,by omega,by rw [hlen];exact hown,fun h0=>?_⟩
 rw [hlen] at h0
 obtain ⟨b,o,z',hA,h0z,hr⟩:=hE (by omega)
 rw [if_neg (by omega),hA]
 have hzz:l=0∨z'=z:=by
  rcases hw with hw | hw
  ·exact .inl hw
  ·right
   cases es with
   | nil =>
    exfalso
    have hz0:(0:Nat)=n:=hz
    clear hr hE hA hw hown hlen
    omega
   | cons d es =>
    have:=(RepE.cons.1 hr).1.cells.1
    rw [← this]
    exact hw d (by simp)
 refine ⟨b,o+l * z,z',by simp [Addr.add_lit],h0z,RepE.mk fun i d hi=>?_⟩
 have hi':es[l+i]? = some d:=by
  rw [List.getElem?_drop,List.getElem?_take] at hi
  split at hi
  ·exact hi
  ·cases hi
 have:=RepE.get (l+i) hr hi'
 rcases hzz with rfl | rfl
 ·simpa using this
 ·rwa [show o+l * z'+i * z'=o+(l+i) * z' by rw [Nat.add_mul];omega]
theorem run_slice_part {t e:TypeId} {A:Option Addr} {n c l h m:Nat} {lo hi mx:Option Value} (ht:elT P t=some e) (he:okT P e=true) (hb:(Instr.sliceBounds true n c lo hi mx).run P w=.ok (l,h,m) w) :
  (Instr.sliceAt t (.slice A n c) lo hi mx).run P w=.ok (.slice (if m=l then A else A.map (·.add (l * szOf P e))) (h - l) (m - l)) w:=by
 have hu:=elT_spec ht
 obtain ⟨d,ti,h7,h8,h9⟩:=okT_spec he
 simp [Instr.sliceAt,Instr.slice,Sem.run_bind,run_underlying hu,hb,sizeOf,typeInfo,h8,h9]

def opsOk (n:Nat) (op:Op):Bool:=op.operands.all (opnOk n)
theorem opsOk_spec {n:Nat} {op:Op} (h:opsOk n op=true):∀ x∈op.operands,opnOk n x=true:=Array.all_eq_true_iff_forall_mem.1 h
theorem map_some_eq {α β:Type} {o:Option α} {g:α→β} {y:β} (h:o.map g=some y):∃ x,o=some x∧g x=y:=by
 cases o with
 | none=>cases h
 | some x=>injection h with h;exact ⟨x,rfl,h⟩
theorem dval_index (hf:RepF P w η X f a) {o:Oper} (hop:∀ x∈o.op.operands,opnOk a.tmps.size x=true) (t:TypeId) (x ix:Operand) (ho:o.op=.indexAddr t x ix) {c:Prop} {d:D} (h:dval P f S o.type o.op=some (c,d)) (hc:c) :
  ∃ v,(execOp a.eval o).run P w=.ok (.value v) w∧Rep P w η X d v:=by
 rw [ho] at h hop
 have h1:=hf.ev (hop x (by simp [Op.operands]))
 have h2:=hf.ev (hop ix (by simp [Op.operands]))
 simp only [dval] at h
 split at h
 ·rename_i k i hi
  rw [hi] at h2
  simp only [Rep] at h2
  split at h
  ·rename_i own es hx
   rw [hx] at h1
   simp only [Rep] at h1
   obtain ⟨A,cap,e1,e2,e3,e4,e5⟩:=h1
   split at h
   ·rename_i e he
    injection h with h
    injection h with hp hd
    subst hp hd
    obtain ⟨k1,k2,k3,k4⟩:=hc
    obtain ⟨b,p,z,rfl,hz,hr⟩:=e5 (by omega)
    have hlt:i.toNat<es.length:=by omega
    have hget:es[i.toNat]? = some (es.getD i.toNat undefD):=by rw [List.getD_eq_getElem?_getD,List.getElem?_eq_getElem hlt];rfl
    have hel:=(RepE.get i.toNat hr hget).cells
    refine ⟨.pointer (some ⟨b,p+i.toNat * szOf P e,none⟩),?_,?_⟩
    ·unfold execOp
     simp only [ho,e1,h2,Sem.run_bind,run_indexAt_slice he k1 k2 k3,Result.andThen_ok]
     rfl
    ·simp only [Rep]
     refine ⟨b,p+i.toNat * szOf P e,rfl,?_⟩
     have:=hel.2
     rwa [← hel.1,k4] at this
   ·cases h
  ·rename_i kk off n c' hx
   rw [hx] at h1
   obtain ⟨A,e1,e2,e3,e0⟩:=h1.win_slice
   split at h
   ·rename_i e he
    injection h with h
    injection h with hp hd
    subst hp hd
    obtain ⟨k1,k2,k3⟩:=hc
    rcases e0 with ⟨b,e0,rfl⟩ | ⟨_,rfl,_⟩
    rotate_left
    ·omega
    refine ⟨.pointer (some ⟨b,off+i.toNat * szOf P e,none⟩),?_,?_⟩
    ·unfold execOp
     simp only [ho,e1,h2,Sem.run_bind,run_indexAt_slice he k1 k2 k3,Result.andThen_ok]
     rfl
    ·simp only [Rep]
     exact ⟨b,e0,rfl⟩
   ·cases h
  ·rename_i kk off hx
   rw [hx] at h1
   simp only [Rep] at h1
   obtain ⟨b,e1,e2⟩:=h1
   split at h
   ·rename_i n e he
    injection h with h
    injection h with hp hd
    subst hp hd
    obtain ⟨k1,k2,k3⟩:=hc
    refine ⟨.pointer (some ⟨b,off+i.toNat * szOf P e,none⟩),?_,?_⟩
    ·unfold execOp
     simp only [ho,e2,h2,Sem.run_bind,run_indexAt_array he k1 k2 k3,Result.andThen_ok]
     rfl
    ·simp only [Rep]
     exact ⟨b,e1,rfl⟩
   ·cases h
  ·rename_i cs off hx
   rw [hx] at h1
   simp only [Rep] at h1
   obtain ⟨b,p,e1,e2⟩:=h1
   split at h
   ·rename_i n e he
    injection h with h
    injection h with hp hd
    subst hp hd
    obtain ⟨k1,k2,k3⟩:=hc
    refine ⟨.pointer (some ⟨b,p+off+i.toNat * szOf P e,none⟩),?_,?_⟩
    ·unfold execOp
     simp only [ho,e1,h2,Sem.run_bind,run_indexAt_array he k1 k2 k3,Result.andThen_ok]
     rfl
    ·simp only [Rep]
     exact ⟨b,p,by rw [Nat.add_assoc],e2⟩
   ·cases h
  ·cases h
 ·cases h
theorem dval_slice (hf:RepF P w η X f a) {o:Oper} (hop:∀ x∈o.op.operands,opnOk a.tmps.size x=true) (t:TypeId) (x:Operand) (lo hi:Option Operand) (ho:o.op=.slice t x lo hi none) {c:Prop} {d:D} (h:dval P f S o.type o.op=some (c,d)) (hc:c) :
  ∃ v,(execOp a.eval o).run P w=.ok (.value v) w∧Rep P w η X d v:=by
 rw [ho] at h hop
 have h1:=hf.ev (hop x (by simp [Op.operands]))
 have hlo:∀ y,lo=some y→opnOk a.tmps.size y=true:=fun y hy=>hop y (by simp [Op.operands,hy])
 have hhi:∀ y,hi=some y→opnOk a.tmps.size y=true:=fun y hy=>hop y (by simp [Op.operands,hy])
 simp only [dval] at h
 split at h
 ·rename_i own es hx
  rw [hx] at h1
  simp only [Rep] at h1
  obtain ⟨A,cap,e1,e2,e3,e4,e5⟩:=h1
  split at h
  ·rename_i e he
   split at h
   ·rename_i l hl
    split at h
    ·rename_i m hm
     injection h with h
     injection h with hp hd
     subst hp hd
     obtain ⟨k1,k2,k3,k4,k5⟩:=hc
     have hb:=run_bounds (P:=P) (w:=w) hf hlo hhi true hl hm k2 k3 (show m≤(cap:Int) by omega)
     have hown:OwnAt P w η (if cap=l.toNat then A else A.map (·.add (l.toNat * szOf P e))) (m.toNat - l.toNat) (cap - l.toNat) (slOwn own hi):=by
      cases hi with
      | some _=>trivial
      | none =>
       simp only [bnd] at hm
       injection hm with hm
       cases own with
       | no=>trivial
       | row g=>trivial
       | full =>
        simp only [OwnAt] at e4
        simp only [slOwn,Own.tail,OwnAt]
        omega
     refine ⟨_,?_,Rep.part (z:=szOf P e) (m:=cap) rfl (show l.toNat≤m.toNat by omega) (by omega) e2 e3 (by rcases k5 with k5 | k5;exact .inl (by omega);exact .inr k5) e5 (by omega) hown⟩
     unfold execOp
     simp only [ho,e1,Sem.run_bind]
     rw [show Option.map a.eval (none:Option Operand)=none from rfl,run_slice_part he k1 hb]
     rfl
    ·cases h
   ·cases h
  ·cases h
 ·rename_i kk off n c' hx
  rw [hx] at h1
  obtain ⟨A,e1,e2,e3,e0⟩:=h1.win_slice
  split at h
  ·rename_i e he
   split at h
   ·rename_i l hl
    split at h
    ·rename_i m hm
     injection h with h
     injection h with hp hd
     subst hp hd
     obtain ⟨k1,k2,k3,k4,k5⟩:=hc
     have hb:=run_bounds (P:=P) (w:=w) hf hlo hhi true hl hm k2 k3 k4
     refine ⟨_,?_,rep_win_part (l:=l.toNat) (h:=m.toNat) (m:=c') (z:=szOf P e) e0 (Nat.le_refl _) (by omega) (by omega) (by omega)⟩
     unfold execOp
     simp only [ho,e1,Sem.run_bind]
     rw [show Option.map a.eval (none:Option Operand)=none from rfl,run_slice_part he k1 hb]
     rfl
    ·cases h
   ·cases h
  ·cases h
 ·rename_i s hx
  rw [hx] at h1
  simp only [Rep] at h1
  split at h
  ·rename_i l hl
   split at h
   ·rename_i m hm
    injection h with h
    injection h with hp hd
    subst hp hd
    obtain ⟨k1,k2,k3,k4⟩:=hc
    have hb:=run_bounds (P:=P) (w:=w) hf hlo hhi false hl hm k2 k3 k4
    refine ⟨_,?_,by simp only [Rep];rfl⟩
    have hu:=strT_spec k1
    unfold execOp
    simp [ho,h1,Instr.sliceAt,Instr.slice,Sem.run_bind,run_underlying hu,hb]
   ·cases h
  ·cases h
 ·rename_i k off hx
  rw [hx] at h1
  simp only [Rep] at h1
  obtain ⟨b,e1,e2⟩:=h1
  split at h
  ·rename_i n e he
   injection h with h
   injection h with hp hd
   subst hp hd
   obtain ⟨k1,k2,rfl,rfl⟩:=hc
   have hu:=arT_spec he
   obtain ⟨d8,i8,h8,h9,_⟩:=okT_spec k1
   refine ⟨.slice (some ⟨b,off,none⟩) n n,?_,by simp only [Rep];exact .inl ⟨b,e1,rfl,Nat.le_refl _,k2⟩⟩
   unfold execOp
   simp [ho,e2,Instr.sliceAt,Instr.sureAddr,Instr.sliceBounds,Sem.run_bind,run_underlying hu,sizeOf,typeInfo,h9,Addr.add_lit]
  ·cases h
 ·cases h
theorem dval_slice3 (hf:RepF P w η X f a) {o:Oper} (hop:∀ x∈o.op.operands,opnOk a.tmps.size x=true) (t:TypeId) (x:Operand) (lo hi:Option Operand) (mx:Operand) (ho:o.op=.slice t x lo hi (some mx)) {c:Prop} {d:D} (h:dval P f S o.type o.op=some (c,d)) (hc:c) :
  ∃ v,(execOp a.eval o).run P w=.ok (.value v) w∧Rep P w η X d v:=by
 rw [ho] at h hop
 have h1:=hf.ev (hop x (by simp [Op.operands]))
 have hlo:∀ y,lo=some y→opnOk a.tmps.size y=true:=fun y hy=>hop y (by simp [Op.operands,hy])
 have hhi:∀ y,hi=some y→opnOk a.tmps.size y=true:=fun y hy=>hop y (by simp [Op.operands,hy])
 have hmx:∀ y,some mx=some y→opnOk a.tmps.size y=true:=fun y hy=>hop y (by simp [Op.operands,hy])
 simp only [dval] at h
 split at h
 ·rename_i own es hx
  rw [hx] at h1
  simp only [Rep] at h1
  obtain ⟨A,cap,e1,e2,e3,e4,e5⟩:=h1
  split at h
  ·rename_i e he
   split at h
   ·rename_i l hl
    split at h
    ·rename_i m hm
     split at h
     ·rename_i q hq
      injection h with h
      injection h with hp hd
      subst hp hd
      obtain ⟨k1,k2,k3,k4,k5,k6,k7⟩:=hc
      subst k4
      have hb:(Instr.sliceBounds true es.length cap (lo.map a.eval) (hi.map a.eval) (some (a.eval mx))).run P w=.ok (l.toNat,m.toNat,m.toNat) w:=by
       obtain ⟨y,rfl⟩:=Option.isSome_iff_exists.1 k6
       rcases bnd_spec hf hhi hm with ⟨e,_⟩ | ⟨k',e2'⟩
       ·cases e
       rcases bnd_spec hf hmx hq with ⟨e,_⟩ | ⟨k'',e3'⟩
       ·cases e
       simp only [Option.map_some,Option.some.injEq] at e2' e3'
       have g1:m≤(cap:Int):=by omega
       have g2:(0:Int)≤m:=by omega
       have g3:l≤max m 0:=by omega
       rcases bnd_spec hf hlo hl with ⟨rfl,rfl⟩ | ⟨k,e1'⟩
       ·simp [Instr.sliceBounds,e2',e3',Instr.sliceBound,asIntOf,g1,g2]
        omega
       ·simp [Instr.sliceBounds,e1',e2',e3',Instr.sliceBound,asIntOf,g1,g2,g3,k2]
        omega
      refine ⟨_,?_,Rep.part (z:=szOf P e) (m:=m.toNat) rfl (show l.toNat≤m.toNat by omega) (by omega) e2 e3 (by rcases k7 with k7 | k7;exact .inl (by omega);exact .inr k7) e5 (Nat.le_refl _) rfl⟩
      unfold execOp
      simp only [ho,e1,Sem.run_bind]
      rw [show Option.map a.eval (some mx)=some (a.eval mx) from rfl,run_slice_part he k1 hb]
      rfl
     ·cases h
    ·cases h
   ·cases h
  ·cases h
 ·rename_i kk off n c' hx
  rw [hx] at h1
  obtain ⟨A,e1,e2,e3,e0⟩:=h1.win_slice
  split at h
  ·rename_i e he
   split at h
   ·rename_i l hl
    split at h
    ·rename_i m hm
     split at h
     ·rename_i q hq
      injection h with h
      injection h with hp hd
      subst hp hd
      obtain ⟨k1,k2,k3,k4,k5,k6,k7⟩:=hc
      have hb:(Instr.sliceBounds true n c' (lo.map a.eval) (hi.map a.eval) (some (a.eval mx))).run P w=.ok (l.toNat,m.toNat,q.toNat) w:=by
       obtain ⟨y,rfl⟩:=Option.isSome_iff_exists.1 k7
       rcases bnd_spec hf hhi hm with ⟨e,_⟩ | ⟨k',e2'⟩
       ·cases e
       rcases bnd_spec hf hmx hq with ⟨e,_⟩ | ⟨k'',e3'⟩
       ·cases e
       simp only [Option.map_some,Option.some.injEq] at e2' e3'
       have g1:q≤(c':Int):=by omega
       have g2:(0:Int)≤q:=by omega
       have g3:l≤max m 0:=by omega
       have g4:(0:Int)≤m:=by omega
       have g5:m≤max q 0:=by omega
       rcases bnd_spec hf hlo hl with ⟨rfl,rfl⟩ | ⟨k,e1'⟩
       ·simp [Instr.sliceBounds,e2',e3',Instr.sliceBound,asIntOf,g1,g2,g4,g5]
       ·simp [Instr.sliceBounds,e1',e2',e3',Instr.sliceBound,asIntOf,g1,g2,g3,g4,g5,k2]
      refine ⟨_,?_,rep_win_part (l:=l.toNat) (h:=m.toNat) (m:=q.toNat) (z:=szOf P e) e0 (by omega) (by omega) (by omega) (by omega)⟩
      unfold execOp
      simp only [ho,e1,Sem.run_bind]
      rw [show Option.map a.eval (some mx)=some (a.eval mx) from rfl,run_slice_part he k1 hb]
      rfl
     ·cases h
    ·cases h
   ·cases h
  ·cases h
 ·cases h

theorem equal_iface_nil {t tt:TypeId} {q:Value} {ms:Array (String × TypeId)} (hm:P.underlying t=some (.interface ms)):(Op.equal t (.iface tt q) .nilIface).run P w=.ok false w:=by
 have key:∀ d,(Op.equalIn (d+1) t (.iface tt q) .nilIface).run P w=.ok false w:=fun d=>by
  simp only [Op.equalIn,Sem.run_bind,run_underlying hm,Result.andThen_ok]
  rfl
 exact key 9999
theorem equal_nil_iface {t tt:TypeId} {q:Value} {ms:Array (String × TypeId)} (hm:P.underlying t=some (.interface ms)):(Op.equal t .nilIface (.iface tt q)).run P w=.ok false w:=by
 have key:∀ d,(Op.equalIn (d+1) t .nilIface (.iface tt q)).run P w=.ok false w:=fun d=>by
  simp only [Op.equalIn,Sem.run_bind,run_underlying hm,Result.andThen_ok]
  rfl
 exact key 9999
theorem equal_ptr_nil {t e:TypeId} {q:Addr} (hm:P.underlying t=some (.pointer e)):(Op.equal t (.pointer (some q)) (.pointer none)).run P w=.ok false w:=by
 have key:∀ d,(Op.equalIn (d+1) t (.pointer (some q)) (.pointer none)).run P w=.ok false w:=fun d=>by
  simp only [Op.equalIn,Sem.run_bind,run_underlying hm,Result.andThen_ok]
  rfl
 exact key 9999
theorem equal_slice_nil {t e:TypeId} {a:Addr} {n c:Nat} (ht:P.underlying t=some (.slice e)):(Op.equal t (.slice (some a) n c) (.slice none 0 0)).run P w=.ok false w:=by
 have key:∀ d,(Op.equalIn (d+1) t (.slice (some a) n c) (.slice none 0 0)).run P w=.ok false w:=fun d=>by
  simp only [Op.equalIn,Sem.run_bind,run_underlying ht,Result.andThen_ok]
  rfl
 exact key 9999
theorem nilCmp_sound {op:BinOp} {t:TypeId} {x y:Operand} {q:Prop} {a:Addr} {n m:Nat} {c:Prop} {d:D} (h:nilCmp P op t q=some (c,d)) (hc:c) :
  ∃ r,(do eqGuard op t x y (.slice (some a) n m) (.slice none 0 0);binOp op t (.slice (some a) n m) (.slice none 0 0):Sem Value).run P w=.ok r w∧Rep P w η X d r:=by
 unfold nilCmp at h
 split at h <;> try (cases h;done)
 all_goals
  injection h with h
  injection h with hp hd
  subst hp hd
  obtain ⟨e,he⟩:=Option.isSome_iff_exists.1 hc.1
  have hm:=elT_spec he
  refine ⟨_,?_,by simp only [Rep];rfl⟩
  simp [eqGuard,binOp,equal_slice_nil hm]
theorem nilCmp_pos {op:BinOp} {t:TypeId} {q:Prop} {c:Prop} {d:D} (h:nilCmp P op t q=some (c,d)) (hc:c):q:=by
 unfold nilCmp at h
 split at h <;> try (cases h;done)
 all_goals
  injection h with h
  injection h with hp hd
  subst hp
  exact hc.2
theorem dbin_sound {op:BinOp} {t:TypeId} {x y:Operand} {d1 d2:D} {u v:Value} (hy:∀ k,y=.const k→v=k) (h1:Rep P w η X d1 u) (h2:Rep P w η X d2 v) {c:Prop} {d:D} (h:dbin P op t x y d1 d2=some (c,d)) (hc:c) :
  ∃ r,(do eqGuard op t x y u v;binOp op t u v:Sem Value).run P w=.ok r w∧Rep P w η X d r:=by
 unfold dbin at h
 split at h
 ·rename_i p q
  simp only [Rep] at h1 h2
  obtain ⟨us,rfl,hu,_⟩:=h1
  obtain ⟨vs,rfl,hv,_⟩:=h2
  unfold dbinA at h
  split at h
  ·rename_i us' vs' e1 e2
   have h3:=vals_rep e1 hu
   have h4:=vals_rep e2 hv
   subst h3 h4
   split at h <;> try (cases h;done)
   all_goals
    injection h with h
    injection h with hp hd
    subst hp hd
    exact ⟨_,hc w,by simp only [Rep]⟩
  ·cases h
 ·rename_i p q
  simp only [Rep] at h1 h2
  subst h1 h2
  obtain ⟨r,hr,he⟩:=map_some_eq h
  injection he with _ he
  subst he
  exact ⟨r,pureRun_run w hr,by simp only [Rep]⟩
 ·rename_i tt dd
  simp only [Rep] at h1 h2
  obtain ⟨q,rfl,_⟩:=h1
  subst h2
  split at h <;> try (cases h;done)
  all_goals
   injection h with h
   injection h with hp hd
   subst hp hd
   unfold ifaceT at hc
   split at hc <;> try (cases hc;done)
   rename_i ms hm
   refine ⟨_,?_,by simp only [Rep];rfl⟩
   simp [eqGuard,binOp,equal_iface_nil hm]
 ·rename_i tt dd
  simp only [Rep] at h1 h2
  obtain ⟨q,rfl,_⟩:=h2
  subst h1
  split at h <;> try (cases h;done)
  all_goals
   injection h with h
   injection h with hp hd
   subst hp hd
   unfold ifaceT at hc
   split at hc <;> try (cases hc;done)
   rename_i ms hm
   refine ⟨_,?_,by simp only [Rep];rfl⟩
   simp [eqGuard,binOp,equal_nil_iface hm]
 ·simp only [Rep] at h1 h2
  obtain ⟨b,_,rfl⟩:=h1
  subst h2
  split at h <;> try (cases h;done)
  all_goals
   injection h with h
   injection h with hp hd
   subst hp hd
   unfold ptrT at hc
   split at hc <;> try (cases hc;done)
   rename_i ms hm
   refine ⟨_,?_,by simp only [Rep];rfl⟩
   simp [eqGuard,binOp,equal_ptr_nil hm]
 ·simp only [Rep] at h1 h2
  obtain ⟨b,o,rfl,_⟩:=h1
  subst h2
  split at h <;> try (cases h;done)
  all_goals
   injection h with h
   injection h with hp hd
   subst hp hd
   unfold ptrT at hc
   split at hc <;> try (cases hc;done)
   rename_i ms hm
   refine ⟨_,?_,by simp only [Rep];rfl⟩
   simp [eqGuard,binOp,equal_ptr_nil hm]
 ·rename_i t1 a t2 b
  simp only [Rep] at h1 h2
  obtain ⟨p,rfl,hp⟩:=h1
  obtain ⟨q,rfl,hq⟩:=h2
  split at h <;> try (cases h;done)
  injection h with h
  injection h with hpp hd
  subst hpp hd
  exact ⟨_,hc w η X p q hp hq,by simp only [Rep]⟩
 ·rename_i p
  cases hn:isNilC y with
  | false=>rw [hn] at h;cases h
  | true =>
   rw [hn] at h
   have hv:=hy _ (isNilC_spec hn)
   subst hv
   simp only [Rep] at h1
   subst h1
   obtain ⟨r,hr,he⟩:=map_some_eq h
   injection he with _ he
   subst he
   exact ⟨r,pureRun_run w hr,by simp only [Rep]⟩
 ·rename_i own es
  cases hn:isNilC y with
  | false=>rw [hn] at h;cases h
  | true =>
   rw [hn] at h
   have hv:=hy _ (isNilC_spec hn)
   subst hv
   have hpos:=nilCmp_pos h hc
   simp only [Rep] at h1
   obtain ⟨A,cap,rfl,_,_,_,h5⟩:=h1
   obtain ⟨b,o,z,rfl,_⟩:=h5 hpos
   exact nilCmp_sound h hc
 ·rename_i k off n cc
  cases hn:isNilC y with
  | false=>rw [hn] at h;cases h
  | true =>
   rw [hn] at h
   have hv:=hy _ (isNilC_spec hn)
   subst hv
   have hpos:0<n:=nilCmp_pos h hc
   simp only [Rep] at h1
   rcases h1 with ⟨b,_,rfl,_⟩ | ⟨_,h0,_⟩
   ·exact nilCmp_sound h hc
   ·omega
 ·cases h
theorem dlen_sound {b:Builtin} {ts:Array TypeId} {ty:TypeId} {cs:Array Bool} {l:List D} {us:List Value} (hr:RepL P w η X l us) {c:Prop} {d:D} (h:dlen P b ts l=some (c,d)) (hc:c) :
  ∃ v,(builtin b ts ty cs us.toArray).run P w=.ok (.value v) w∧Rep P w η X d v:=by
 unfold dlen at h
 split at h
 ·rename_i own es
  injection h with h
  injection h with hp hd
  subst hp hd
  simp only [RepL,Rep] at hr
  obtain ⟨x,xs,rfl,⟨A,cap,rfl,_⟩,rfl⟩:=hr
  obtain ⟨e,he⟩:=Option.isSome_iff_exists.1 hc
  cases ht:ts[0]? with
  | none=>rw [ht] at he;cases he
  | some t =>
   rw [ht] at he
   have hu:=elT_spec (t:=t) he
   refine ⟨_,?_,by simp only [Rep];rfl⟩
   simp [builtin,Builtin.len_,ht,Sem.run_bind,run_underlying hu,goInt]
 ·rename_i kk n
  injection h with h
  injection h with hp hd
  subst hp hd
  simp only [RepL] at hr
  obtain ⟨x,xs,rfl,hrw,rfl⟩:=hr
  obtain ⟨A,rfl,_⟩:=hrw.win_slice
  obtain ⟨e,he⟩:=Option.isSome_iff_exists.1 hc
  cases ht:ts[0]? with
  | none=>rw [ht] at he;cases he
  | some t =>
   rw [ht] at he
   have hu:=elT_spec (t:=t) he
   refine ⟨_,?_,by simp only [Rep];rfl⟩
   simp [builtin,Builtin.len_,ht,Sem.run_bind,run_underlying hu,goInt]
 ·rename_i es
  injection h with h
  injection h with hp hd
  subst hp hd
  simp only [RepL,Rep,OwnAt] at hr
  obtain ⟨x,xs,rfl,⟨A,cap,rfl,_,_,rfl,_⟩,rfl⟩:=hr
  obtain ⟨e,he⟩:=Option.isSome_iff_exists.1 hc
  cases ht:ts[0]? with
  | none=>rw [ht] at he;cases he
  | some t =>
   rw [ht] at he
   have hu:=elT_spec (t:=t) he
   refine ⟨_,?_,by simp only [Rep];rfl⟩
   simp [builtin,Builtin.cap_,ht,Sem.run_bind,run_underlying hu,goInt]
 ·rename_i kk off n c'
  injection h with h
  injection h with hp hd
  subst hp hd
  simp only [RepL] at hr
  obtain ⟨x,xs,rfl,hrw,rfl⟩:=hr
  obtain ⟨A,rfl,_⟩:=hrw.win_slice
  obtain ⟨e,he⟩:=Option.isSome_iff_exists.1 hc
  cases ht:ts[0]? with
  | none=>rw [ht] at he;cases he
  | some t =>
   rw [ht] at he
   have hu:=elT_spec (t:=t) he
   refine ⟨_,?_,by simp only [Rep];rfl⟩
   simp [builtin,Builtin.cap_,ht,Sem.run_bind,run_underlying hu,goInt]
 ·cases h
theorem dbuiltin_sound {b:Builtin} {ts:Array TypeId} {ty:TypeId} {cs:Array Bool} {l:List D} {us:List Value} (hr:RepL P w η X l us) {c:Prop} {d:D} (h:dbuiltin P b ts ty cs l=some (c,d)) (hc:c) :
  ∃ v,(builtin b ts ty cs us.toArray).run P w=.ok (.value v) w∧Rep P w η X d v:=by
 unfold dbuiltin at h
 split at h
 ·rename_i vs hv
  have:=vals_rep hv hr
  subst this
  split at h
  ·rename_i r hp
   injection h with h
   injection h with _ hd
   subst hd
   exact ⟨r,pureRun_run w hp,by simp only [Rep]⟩
  ·exact dlen_sound hr h hc
 ·exact dlen_sound hr h hc
theorem run_builtin_op (ρ:Operand→Value) (dst:Option Tmp) (b:Builtin) (args:Array Operand) (ats:Array TypeId) (ty:TypeId) (pos:String) (after:Array Edge) (guard:Option (Nat × Bool)) :
  (execOp ρ ⟨dst,.call ⟨.builtin b,args,ats⟩,ty,pos,after,guard⟩).run P w=(builtin b ats ty (args.map isConstB) (args.map ρ)).run P w:=by
 unfold execOp
 simp only [resolve,invoke,Sem.run_bind,Sem.run_pure,Result.andThen_ok]
 congr 2
set_option maxHeartbeats 1000000 in
theorem dval_sound (hM:Mem P base S η w) (hf:RepF P w η (Fix P S η) f a) {o:Oper} (hop:opsOk a.tmps.size o.op=true) {c:Prop} {d:D} (h:dval P f S o.type o.op=some (c,d)) (hc:c) :
  ∃ v,(execOp a.eval o).run P w=.ok (.value v) w∧Rep P w η (Fix P S η) d v:=by
 have hop:=opsOk_spec hop
 have rd:∀ {t:TypeId} {cs:List D} {b off:Nat},rdOk P t cs off→(∃ vs:List Value,w.rangeAt b 0 vs∧RepL P w η (Fix P S η) cs vs∧∀ x∈vs,x.oneCell'=true) →
   ∃ v,(Instr.loadAt t (.pointer (some ⟨b,off,none⟩))).run P w=.ok v w∧Rep P w η (Fix P S η) (rdVal P t cs off) v:=by
  intro t cs b off hok ⟨vs,hr,hl,h1⟩
  obtain ⟨h1',h2⟩:=hok
  obtain ⟨d,i,hu,hi,hsz⟩:=okT_spec h1'
  have hll:=hl.length
  cases hg:aggT P t with
  | true =>
   simp only [hg,cond_true] at h2
   have hlen:((vs.drop off).take (szOf P t)).length=szOf P t:=by rw [List.length_take,List.length_drop];omega
   refine ⟨.agg ((vs.drop off).take (szOf P t)).toArray,run_loadAt_mid w b off t _ d (fun j v hj=>?_) hu (by rw [← aggT_spec hu,hg]) (by rw [hi,hlen,hsz];rfl),?_⟩
   ·rw [List.getElem?_take] at hj
    split at hj
    ·rw [List.getElem?_drop] at hj
     have:=hr (off+j) v hj
     rwa [Nat.zero_add] at this
    ·cases hj
   ·simp only [rdVal,hg,cond_true,Rep]
    exact ⟨_,rfl,(hl.drop off).take _,fun x hx=>h1 x (List.mem_of_mem_drop (List.mem_of_mem_take hx))⟩
  | false =>
   simp only [hg,cond_false] at h2
   obtain ⟨x,hx,hrx⟩:=hl.get off (List.getElem?_eq_getElem h2)
   have hcell:=hr off x hx
   rw [Nat.zero_add] at hcell
   refine ⟨x,?_,?_⟩
   ·have hn:=aggT_spec hu
    rw [hg] at hn
    have hagg:(isAgg t).run P w=.ok false w:=by
     unfold isAgg
     rw [Sem.run_bind,run_underlying hu w]
     cases d <;> simp_all
    simp [Instr.loadAt,Instr.sureAddr,loadVar,Sem.run_bind,hagg,load,Sem.run,hcell]
   ·simp only [rdVal,hg,cond_false]
    rw [List.getD_eq_getElem?_getD,List.getElem?_eq_getElem h2]
    exact hrx
 obtain ⟨dst,op,ty,pos,after,guard⟩:=o
 cases op with
 | move x =>
  simp only [dval] at h
  injection h with h;injection h with _ h;subst h
  exact ⟨_,rfl,hf.ev (hop x (by simp [Op.operands]))⟩
 | assign x =>
  simp only [dval] at h
  injection h with h;injection h with _ h;subst h
  exact ⟨_,rfl,hf.ev (hop x (by simp [Op.operands]))⟩
 | pick g x y =>
  simp only [dval] at h
  have h1:=hf.ev (hop g (by simp [Op.operands]))
  have h2:=hf.ev (hop x (by simp [Op.operands]))
  have h3:=hf.ev (hop y (by simp [Op.operands]))
  split at h
  ·rename_i t ht
   rw [ht] at h1
   simp only [Rep] at h1
   injection h with h;injection h with _ h;subst h
   refine ⟨bif t then a.eval x else a.eval y,?_,by cases t;exact h3;exact h2⟩
   unfold execOp
   simp only [h1,asBool]
   cases t <;> rfl
  ·cases h
 | load t x =>
  simp only [dval] at h
  have h1:=hf.ev (hop x (by simp [Op.operands]))
  split at h
  ·rename_i k off hx
   rw [hx] at h1
   simp only [Rep] at h1
   obtain ⟨b,e1,e2⟩:=h1
   split at h
   ·rename_i t' cs hk
    injection h with h;injection h with hp hd;subst hp hd
    obtain ⟨vs,k1,k2,k3⟩:=hM.box k t' cs b hk e1
    obtain ⟨v,hv,hr⟩:=rd (b:=b) (off:=off) hc ⟨vs,fun j v hj=>by rw [Nat.zero_add,cell_of_row w b j _ _ _ k1];simpa using hj,k2,k3⟩
    refine ⟨v,?_,hr⟩
    unfold execOp
    simp only [e2,Sem.run_bind,hv,Result.andThen_ok]
    rfl
   ·cases h
  ·rename_i cs off hx
   rw [hx] at h1
   simp only [Rep] at h1
   obtain ⟨b,p,e1,e2⟩:=h1
   injection h with h;injection h with hp hd;subst hp hd
   obtain ⟨v,hv,hr⟩:=run_load_cells (P:=P) hc e2
   refine ⟨v,?_,hr⟩
   unfold execOp
   simp only [e1,Sem.run_bind,hv,Result.andThen_ok]
   rfl
  ·rename_i q hx
   rw [hx] at h1
   simp only [Rep] at h1
   split at h
   ·rename_i d' hg
    injection h with h;injection h with hp hd;subst hp hd
    obtain ⟨c1,c2,c3⟩:=hc
    obtain ⟨v,hv,hr⟩:=glob_rep (P:=P) (η:=η) (X:=Fix P S η) hM.glob hg
    rw [← c1] at hv
    clear c1
    refine ⟨v,?_,hr⟩
    obtain ⟨dd,i,hu,hi,hsz⟩:=okT_spec c2
    have hn:=aggT_spec hu
    rw [c3] at hn
    have hagg:(isAgg t).run P w=.ok false w:=by
     unfold isAgg
     rw [Sem.run_bind,run_underlying hu w]
     cases dd <;> simp_all
    unfold execOp
    simp [h1,Instr.loadAt,Instr.sureAddr,loadVar,Sem.run_bind,hagg,load,Sem.run,hv]
   ·cases h
  ·cases h
 | fieldAddr t x i =>
  simp only [dval] at h
  have h1:=hf.ev (hop x (by simp [Op.operands]))
  split at h
  ·rename_i fo ft hfl
   split at h
   ·rename_i k off hx
    rw [hx] at h1
    simp only [Rep] at h1
    obtain ⟨b,e1,e2⟩:=h1
    injection h with h;injection h with hp hd;subst hp hd
    refine ⟨.pointer (some ⟨b,off+fo,none⟩),?_,by simp only [Rep];exact ⟨b,e1,rfl⟩⟩
    unfold execOp
    simp only [e2,Sem.run_bind,run_fieldAt hfl hc,Result.andThen_ok]
    rfl
   ·rename_i cs off hx
    rw [hx] at h1
    simp only [Rep] at h1
    obtain ⟨b,p,e1,e2⟩:=h1
    injection h with h;injection h with hp hd;subst hp hd
    refine ⟨.pointer (some ⟨b,p+off+fo,none⟩),?_,by simp only [Rep];exact ⟨b,p,by rw [Nat.add_assoc],e2⟩⟩
    unfold execOp
    simp only [e1,Sem.run_bind,run_fieldAt hfl hc,Result.andThen_ok]
    rfl
   ·cases h
  ·cases h
 | field t x i =>
  simp only [dval] at h
  have h1:=hf.ev (hop x (by simp [Op.operands]))
  split at h
  ·rename_i fo ft hfl
   split at h
   ·rename_i cs hx
    rw [hx] at h1
    simp only [Rep] at h1
    obtain ⟨vs,e1,e2,e3⟩:=h1
    injection h with h;injection h with hp hd;subst hp hd
    obtain ⟨v,hv,hr⟩:=run_part_cells (P:=P) hc e2 e3
    obtain ⟨fs,fd,g1,g2,g3,g4⟩:=fld_spec hfl
    refine ⟨v,?_,hr⟩
    unfold execOp
    simp [e1,Instr.field,Sem.run_bind,run_underlying g1,g2,asAgg,g3,g4,hv]
   ·cases h
  ·cases h
 | indexAddr t x ix=>exact dval_index hf hop t x ix rfl h hc
 | index t x ix =>
  simp only [dval] at h
  have h1:=hf.ev (hop x (by simp [Op.operands]))
  have h2:=hf.ev (hop ix (by simp [Op.operands]))
  split at h
  ·rename_i k i hi
   rw [hi] at h2
   simp only [Rep] at h2
   split at h
   ·rename_i cs hx
    rw [hx] at h1
    simp only [Rep] at h1
    obtain ⟨vs,e1,e2,e3⟩:=h1
    split at h
    ·rename_i n e he
     injection h with h;injection h with hp hd;subst hp hd
     obtain ⟨k1,k2,k3⟩:=hc
     obtain ⟨v,hv,hr⟩:=run_part_cells (P:=P) k3 e2 e3
     have hu:=arT_spec he
     obtain ⟨_,ti,_,h8,h9⟩:=okT_spec k3.1
     rw [h9] at hv
     refine ⟨v,?_,hr⟩
     unfold execOp
     simp [e1,h2,Instr.index,Sem.run_bind,asIntOf,run_underlying hu,k1,k2,sizeOf,typeInfo,h8,hv]
    ·cases h
   ·rename_i s hx
    rw [hx] at h1
    simp only [Rep] at h1
    injection h with h;injection h with hp hd;subst hp hd
    obtain ⟨k1,k2,k3⟩:=hc
    have hu:=strT_spec k1
    have hlt:i.toNat<s.size:=by omega
    have hlt':i.toNat<s.data.size:=hlt
    refine ⟨_,?_,by simp only [Rep];rfl⟩
    unfold execOp
    simp [h1,h2,Instr.index,Sem.run_bind,asIntOf,run_underlying hu,k2,hlt]
    rfl
   ·cases h
  ·cases h
 | extract x i =>
  simp only [dval] at h
  have h1:=hf.ev (hop x (by simp [Op.operands]))
  split at h
  ·rename_i ds hx
   rw [hx] at h1
   simp only [Rep] at h1
   obtain ⟨vs,e1,e2⟩:=h1
   injection h with h;injection h with hp hd;subst hp hd
   have hl:=e2.length
   obtain ⟨v,hv,hr⟩:=e2.get i (List.getElem?_eq_getElem hc)
   have hlt:i<vs.length:=by omega
   rw [List.getElem?_eq_getElem hlt] at hv
   injection hv with hv
   refine ⟨v,?_,?_⟩
   ·unfold execOp
    simp [e1,Instr.extract,List.getElem?_eq_getElem hlt,hv]
   ·rw [List.getD_eq_getElem?_getD,List.getElem?_eq_getElem hc]
    exact hr
  ·cases h
 | makeFunc fn fs cs =>
  simp only [dval] at h
  injection h with h;injection h with _ hd;subst hd
  refine ⟨.func fn (fs.toList.map a.eval).toArray (cs.toList.map a.eval).toArray,?_,?_⟩
  ·unfold execOp
   simp [Instr.makeFunc]
   exact ⟨by apply Array.ext';simp,by apply Array.ext';simp⟩
  ·simp only [Rep]
   exact ⟨_,_,rfl,repL_map hf fun x hx=>hop x (by simp only [Op.operands,Array.mem_append];exact .inl (by simpa using hx)),repL_map hf fun x hx=>hop x (by simp only [Op.operands,Array.mem_append];exact .inr (by simpa using hx))⟩
 | makeInterface t x =>
  simp only [dval] at h
  injection h with h;injection h with hp hd;subst hp hd
  obtain ⟨k1,k2⟩:=hc
  obtain ⟨d',hu⟩:=Option.isSome_iff_exists.1 k1
  refine ⟨.iface t (a.eval x),?_,by simp only [Rep];exact ⟨_,rfl,hf.ev (hop x (by simp [Op.operands]))⟩⟩
  unfold execOp
  unfold ifaceT at k2
  rw [hu] at k2
  cases d' <;> first | (simp [Instr.makeInterface,Sem.run_bind,run_underlying hu];done) | cases k2
 | nilCheck x =>
  simp only [dval] at h
  have h1:=hf.ev (hop x (by simp [Op.operands]))
  split at h
  ·rename_i k off hx
   rw [hx] at h1
   injection h with h;injection h with _ hd;subst hd
   refine ⟨a.eval x,?_,h1⟩
   simp only [Rep] at h1
   obtain ⟨b,e1,e2⟩:=h1
   unfold execOp
   simp [e2]
  ·rename_i cs off hx
   rw [hx] at h1
   injection h with h;injection h with _ hd;subst hd
   refine ⟨a.eval x,?_,h1⟩
   simp only [Rep] at h1
   obtain ⟨b,p,e1,e2⟩:=h1
   unfold execOp
   simp [e1]
  ·rename_i g fs cs hx
   rw [hx] at h1
   injection h with h;injection h with _ hd;subst hd
   refine ⟨a.eval x,?_,h1⟩
   simp only [Rep] at h1
   obtain ⟨us,vs,e1,e2,e3⟩:=h1
   unfold execOp
   simp [e1]
  ·cases h
 | slice t x lo hi mx =>
  cases mx with
  | none=>exact dval_slice hf hop t x lo hi rfl h hc
  | some mx=>exact dval_slice3 hf hop t x lo hi mx rfl h hc
 | binOp op t x y yt =>
  simp only [dval] at h
  obtain ⟨r,hr,hR⟩:=dbin_sound (fun k hk=>by rw [hk];rfl) (hf.ev (hop x (by simp [Op.operands]))) (hf.ev (hop y (by simp [Op.operands]))) h hc
  refine ⟨r,?_,hR⟩
  unfold execOp
  simp only
  rw [Sem.run_bind,hr]
  rfl
 | unOp op t x =>
  simp only [dval] at h
  have h1:=hf.ev (hop x (by simp [Op.operands]))
  split at h
  ·rename_i u hx
   rw [hx] at h1
   simp only [Rep] at h1
   obtain ⟨r,hr,he⟩:=map_some_eq h
   injection he with _ he
   subst he
   refine ⟨r,?_,by simp only [Rep]⟩
   unfold execOp
   simp only [h1]
   rw [Sem.run_bind,pureRun_run w hr]
   rfl
  ·cases h
 | convert s t x =>
  simp only [dval] at h
  have h1:=hf.ev (hop x (by simp [Op.operands]))
  split at h
  ·rename_i u hx
   rw [hx] at h1
   simp only [Rep] at h1
   obtain ⟨r,hr,he⟩:=map_some_eq h
   injection he with _ he
   subst he
   refine ⟨r,?_,by simp only [Rep]⟩
   unfold execOp
   simp only [h1]
   rw [Sem.run_bind,pureRun_run w hr]
   rfl
  ·rename_i own es hx
   rw [hx] at h1
   split at h
   ·rename_i e he
    injection h with h
    injection h with hc' hd
    subst hc' hd
    obtain ⟨k1,k2,k3⟩:=hc
    simp only [Rep] at h1
    obtain ⟨A,c,h1,hle,_,_,hE⟩:=h1
    have hlen:es.length=(bytesD es).length:=by simp [bytesD]
    have hrd:Reads w w.heap.size 1 A es.length ((bytesD es).map bv):=by
     refine ⟨by rw [List.length_map,← hlen,Nat.mul_one],fun hp=>?_⟩
     obtain ⟨b,o,z,hA,_,hz⟩:=hE hp
     rw [k3] at hz
     refine ⟨b,o,hA,?_,fun j u hj=>?_⟩
     ·have hp':0<(bytesD es).length:=by omega
      have:=hz.bytes (List.getElem?_eq_getElem hp')
      exact World.block_lt_of_cell? w _ this
     ·rw [List.getElem?_map] at hj
      obtain ⟨u',hu',rfl⟩:=Option.map_eq_some_iff.1 hj
      exact hz.bytes hu'
    refine ⟨.string ⟨(bytesD es).toArray⟩,?_,by simp only [Rep]⟩
    unfold execOp
    simp only [h1]
    rw [Sem.run_bind,run_string_of_bytes s t e (elT_spec he) (u8T_spec k1) (strT_spec k2) hrd]
    rfl
   ·cases h
  ·cases h
 | call cl =>
  obtain ⟨callee,args,ats⟩:=cl
  cases callee with
  | builtin b =>
   simp only [dval] at h
   have hr:=repL_map hf (l:=args.toList) fun x hx=>hop x (by simp only [Op.operands,Call.operands,Array.mem_append];exact .inr (by simpa using hx))
   obtain ⟨v,hv,hR⟩:=dbuiltin_sound hr h hc
   refine ⟨v,?_,hR⟩
   have e:(args.toList.map a.eval).toArray=args.map a.eval:=by apply Array.ext';simp
   rw [e] at hv
   rw [run_builtin_op]
   exact hv
  | value x=>simp [dval] at h
  | invoke r m=>simp [dval] at h
 | _=>simp [dval] at h
end

def St.add (S:St) (o:Ob):St:=⟨S.next+1,fun k=>if k=S.next then some o else S.ob k⟩
def St.set (S:St) (k:Nat) (o:Ob):St:=⟨S.next,fun j=>if j=k then some o else S.ob j⟩
def St.drop (S:St) (g:Nat):St:=⟨S.next,fun k=>if k=g then none else S.ob k⟩
def St.leave (S:St):Own→St
 | .row g=>S.drop g
 | _=>S
def St.grow (S:St) (o:Own) (e:TypeId) (n:Nat):St:=(S.leave o).add (.row e n)

def isLoopO:Obj→Bool
 | .loop _=>true
 | .deferred _=>true
 | _=>false
def Loops (w w':World):Prop:=∀ (k:Nat) (o:Obj),w.heap[k]? = some o→isLoopO o=true→w'.heap[k]? = some o
theorem Loops.refl (w:World):Loops w w:=fun _ _ h _=>h
theorem Loops.trans {A B C:World} (h:Loops A B) (k:Loops B C):Loops A C:=fun i o hi ho=>k i o (h i o hi ho) ho
theorem Loops.alloc (w:World) (x:Obj):Loops w (w.alloc x):=fun k _ hk _=>(Below.heap_alloc w x k (Array.getElem?_eq_some_iff.1 hk).1).trans hk
theorem Loops.setRow {w:World} {b:Nat} {old:Array Value} {t:TypeId} {fr:Nat × Nat} (h:w.heap[b]? = some (.cells old t fr)) (cs:Array Value):Loops w (w.setRow b cs):=fun k o hk ho=>by
 have hne:k ≠ b:=fun e=>by subst e;rw [h] at hk;injection hk with hk;subst hk;cases ho
 rw [setRow_other w b k _ hne];exact hk
theorem Loops.of_below {w w':World} (h:Below w.heap.size w w'):Loops w w':=fun k _ hk _=>(h.block k (Array.getElem?_eq_some_iff.1 hk).1).trans hk
structure Goes (P:Program) (base:Nat) (S:St) (η:Names) (w:World) (S':St) (η':Names) (w':World):Prop where
 mem:Mem P base S' η' w'
 keep:Keep (fun _=>True) w η (Fix P S η) w' η' (Fix P S' η')
 below:Below base w w'
 drawn:mo=true→w.drawn≤w'.drawn
 loops:Loops w w'

section
variable {P : Program} {base : Nat} {S : St} {η : Names} {w : World}
theorem Keep.refl (N:Nat→Prop) (w:World) (η:Names) (X:Nat→Nat→Prop):Keep N w η X w η X:=⟨Nat.le_refl _,fun _ _ _ h=>⟨h,rfl⟩,fun _ _ _ h=>h,fun _ cur _ h=>⟨cur,h,rfl⟩⟩
theorem Keep.trans {N:Nat→Prop} {w w1 w2:World} {η η1 η2:Names} {X X1 X2:Nat→Nat→Prop} (h:Keep N w η X w1 η1 X1) (k:Keep N w1 η1 X1 w2 η2 X2):Keep N w η X w2 η2 X2 :=
 ⟨Nat.le_trans h.size k.size,fun b i hb hx=>⟨(k.fix b i (Nat.lt_of_lt_of_le hb h.size) (h.fix b i hb hx).1).1,((k.fix b i (Nat.lt_of_lt_of_le hb h.size) (h.fix b i hb hx).1).2).trans (h.fix b i hb hx).2⟩,
  fun q b hn hq=>k.eta q b hn (h.eta q b hn hq),fun b cur e hc=>by
   obtain ⟨c1,h1,h2⟩:=h.shp b cur e hc
   obtain ⟨c2,h3,h4⟩:=k.shp b c1 e h1
   exact ⟨c2,h3,h4.trans h2⟩⟩
theorem Goes.refl (h:Mem P base S η w):Goes P base S η w S η w:=⟨h,Keep.refl _ _ _ _,Below.refl _ _,fun _=>Nat.le_refl _,Loops.refl _⟩
theorem Goes.trans {S1 S2:St} {η1 η2:Names} {w1 w2:World} (h:Goes P base S η w S1 η1 w1) (k:Goes P base S1 η1 w1 S2 η2 w2):Goes P base S η w S2 η2 w2:=⟨k.mem,h.keep.trans k.keep,h.below.trans k.below,fun hm=>Nat.le_trans (h.drawn hm) (k.drawn hm),h.loops.trans k.loops⟩
theorem Goes.rep {S':St} {η':Names} {w':World} (h:Goes P base S η w S' η' w') {d:D} {v:Value} (hr:Rep P w η (Fix P S η) d v):Rep P w' η' (Fix P S' η') d v:=Rep.keep h.keep (D.all_true d) hr
theorem Goes.repL {S':St} {η':Names} {w':World} (h:Goes P base S η w S' η' w') {d:List D} {v:List Value} (hr:RepL P w η (Fix P S η) d v):RepL P w' η' (Fix P S' η') d v:=RepL.keep h.keep (allL_true d) hr
theorem Goes.repF {S':St} {η':Names} {w':World} (h:Goes P base S η w S' η' w') {f:Fm} {a:Act} (hr:RepF P w η (Fix P S η) f a):RepF P w' η' (Fix P S' η') f a:=fun t ht=>h.rep (hr t ht)

theorem goes_drew (h:Mem P base S η w):Goes P base S η w S η w.drew:=by
 have K:Keep (fun _=>True) w η (Fix P S η) w.drew η (Fix P S η):=⟨Nat.le_refl _,fun _ _ _ hx=>⟨hx,rfl⟩,fun _ _ _ hx=>hx,fun _ cur _ hx=>⟨cur,hx,rfl⟩⟩
 refine ⟨⟨h.base_,h.dead,h.fresh,h.live,h.inj,h.in_,fun k t cs b h1 h2=>?_,h.row,h.glob.below (Below.refl _ _).drew,h.mp⟩,K,(Below.refl _ _).drew,fun _=>Nat.le_succ _,fun _ _ h _=>h⟩
 obtain ⟨vs,k1,k2,k3⟩:=h.box k t cs b h1 h2
 exact ⟨vs,k1,RepL.keep K (allL_true _) k2,k3⟩
theorem goes_new (h:Mem P base S η w) (o:Obj):Goes P base S η w S η (w.alloc o):=by
 have K:Keep (fun _=>True) w η (Fix P S η) (w.alloc o) η (Fix P S η):=⟨by simp,fun b i hb hx=>⟨hx,World.cell?_alloc_lt w o _ hb⟩,fun _ _ _ hx=>hx,fun b cur _ hx=>⟨cur,by rw [Below.heap_alloc w o b ((Array.getElem?_eq_some_iff.1 hx).1)];exact hx,rfl⟩⟩
 have hlt:∀ k b,η k=some (some b)→(w.alloc o).heap[b]? = w.heap[b]? := fun k b hk=>Below.heap_alloc w o b (h.in_ k b hk).2
 refine ⟨⟨by simp;have:=h.base_;omega,h.dead,h.fresh,h.live,h.inj,fun k b hk=>⟨(h.in_ k b hk).1,by simp;have:=(h.in_ k b hk).2;omega⟩,fun k t cs b h1 h2=>?_,fun k e n b h1 h2=>?_,h.glob.below ((Below.refl _ _).alloc h.base_ o),fun k b l hk=>?_⟩,K,(Below.refl _ _).alloc h.base_ o,fun _=>Nat.le_refl _,Loops.alloc _ _⟩
 ·obtain ⟨vs,k1,k2,k3⟩:=h.box k t cs b h1 h2
  exact ⟨vs,(hlt k b h2).trans k1,RepL.keep K (allL_true _) k2,k3⟩
 ·obtain ⟨cur,k1,k2⟩:=h.row k e n b h1 h2
  exact ⟨cur,(hlt k b h2).trans k1,k2⟩
 ·obtain ⟨k1,es,c,k2,k3⟩:=h.mp k b l hk
  exact ⟨k1,es,c,(hlt k b k1).trans k2,k3⟩
def Names.add (η:Names) (k:Nat) (b:Option Nat):Names:=fun j=>if j=k then some b else η j
theorem goes_name (h:Mem P base S η w) (o:Ob) (cur:Array Value) (t:TypeId)
  (ho:(∃ cs vs,o=.box t cs∧cur=(vs:List Value).toArray∧RepL P w η (Fix P S η) cs vs∧∀ x∈vs,x.oneCell'=true)∨∃ n,o=.row t n∧n * szOf P t≤cur.size) :
  Goes P base S η w (S.add o) (η.add S.next (some w.heap.size)) (w.alloc (.cells cur t)):=by
 have hd:=h.dead S.next (Nat.le_refl _)
 have hold:∀ k b,η k=some b→k ≠ S.next:=fun k b hk e=>by subst e;rw [hd] at hk;cases hk
 have K:Keep (fun _=>True) w η (Fix P S η) (w.alloc (.cells cur t)) (η.add S.next (some w.heap.size)) (Fix P (S.add o) (η.add S.next (some w.heap.size))):=by
  refine ⟨by simp,fun b i hb hx=>⟨fun k o' hk hk'=>?_,World.cell?_alloc_lt w _ _ hb⟩,fun k b _ hk=>?_,fun b c _ hx=>⟨c,by rw [Below.heap_alloc w _ b ((Array.getElem?_eq_some_iff.1 hx).1)];exact hx,rfl⟩⟩
  ·simp only [Names.add,St.add] at hk hk'
   by_cases e:k=S.next
   ·rw [if_pos e] at hk;injection hk with hk;injection hk with hk;omega
   ·rw [if_neg e] at hk hk'
    exact hx k o' hk hk'
  ·simp only [Names.add];rw [if_neg (hold k b hk)];exact hk
 have hlt:∀ k b,η k=some (some b)→(w.alloc (.cells cur t)).heap[b]? = w.heap[b]? := fun k b hk=>Below.heap_alloc w _ b (h.in_ k b hk).2
 refine ⟨⟨by simp;have:=h.base_;omega,fun k hk=>?_,fun k hk=>?_,fun k t' cs hk=>?_,fun k k' b h1 h2 h3 h4=>?_,fun k b hk=>?_,fun k t' cs b h1 h2=>?_,fun k e n b h1 h2=>?_,h.glob.below ((Below.refl _ _).alloc h.base_ _),fun k b l hk=>?_⟩,K,(Below.refl _ _).alloc h.base_ _,fun _=>Nat.le_refl _,Loops.alloc _ _⟩
 ·have hk':S.next+1≤k:=hk
  simp only [Names.add];rw [if_neg (by omega)];exact h.dead k (by omega)
 ·have hk':S.next+1≤k:=hk
  simp only [St.add];rw [if_neg (by omega)];exact h.fresh k (by omega)
 ·simp only [Names.add]
  by_cases e:k=S.next
  ·exact ⟨_,if_pos e⟩
  ·simp only [St.add] at hk
   rw [if_neg e] at hk ⊢
   exact h.live k t' cs hk
 ·simp only [Names.add,St.add] at h1 h2 h3 h4
  by_cases e:k=S.next <;> by_cases e':k'=S.next
  ·omega
  ·rw [if_pos e] at h1;rw [if_neg e'] at h2
   injection h1 with h1
   injection h1 with h1
   have:=(h.in_ k' b h2).2
   omega
  ·rw [if_neg e] at h1;rw [if_pos e'] at h2
   injection h2 with h2
   injection h2 with h2
   have:=(h.in_ k b h1).2
   omega
  ·rw [if_neg e] at h1 h3;rw [if_neg e'] at h2 h4
   exact h.inj k k' b h1 h2 h3 h4
 ·simp only [Names.add] at hk
  by_cases e:k=S.next
  ·rw [if_pos e] at hk;injection hk with hk;injection hk with hk;subst hk;exact ⟨h.base_,by simp⟩
  ·rw [if_neg e] at hk
   exact ⟨(h.in_ k b hk).1,by simp;have:=(h.in_ k b hk).2;omega⟩
 ·simp only [Names.add,St.add] at h1 h2
  by_cases e:k=S.next
  ·rw [if_pos e] at h1 h2
   injection h1 with h1;injection h2 with h2;injection h2 with h2
   subst h1 h2
   rcases ho with ⟨cs',vs,ho,rfl,hr,h5⟩ | ⟨n,ho,_⟩
   ·injection ho with ho1 ho2
    subst ho1 ho2
    exact ⟨vs,heap_alloc_new w _,RepL.keep K (allL_true _) hr,h5⟩
   ·cases ho
  ·rw [if_neg e] at h1 h2
   obtain ⟨vs,k1,k2,k3⟩:=h.box k t' cs b h1 h2
   exact ⟨vs,(hlt k b h2).trans k1,RepL.keep K (allL_true _) k2,k3⟩
 ·simp only [Names.add,St.add] at h1 h2
  by_cases e':k=S.next
  ·rw [if_pos e'] at h1 h2
   injection h1 with h1;injection h2 with h2;injection h2 with h2
   subst h1 h2
   rcases ho with ⟨cs',vs,ho,_⟩ | ⟨n',ho,hn⟩
   ·cases ho
   ·injection ho with ho1 ho2
    subst ho1 ho2
    exact ⟨cur,heap_alloc_new w _,hn⟩
  ·rw [if_neg e'] at h1 h2
   obtain ⟨c,k1,k2⟩:=h.row k e n b h1 h2
   exact ⟨c,(hlt k b h2).trans k1,k2⟩
 ·simp only [Names.add,St.add] at hk ⊢
  by_cases e':k=S.next
  ·rw [if_pos e'] at hk
   injection hk with hk
   subst hk
   rcases ho with ⟨cs',vs,ho,_⟩ | ⟨n',ho,_⟩ <;> cases ho
  ·rw [if_neg e'] at hk ⊢
   obtain ⟨k1,es,c,k2,k3⟩:=h.mp k b l hk
   exact ⟨k1,es,c,(hlt k b k1).trans k2,k3⟩
theorem goes_set (h:Mem P base S η w) {k b:Nat} {t:TypeId} {cs cs':List D} {vs':List Value} (hk:S.ob k=some (.box t cs)) (hb:η k=some (some b)) (hl:cs'.length=cs.length) (hr:RepL P w η (Fix P S η) cs' vs') (h1:∀ x∈vs',x.oneCell'=true) :
  Goes P base S η w (S.set k (.box t cs')) η (w.setRow b vs'.toArray):=by
 obtain ⟨vs,g1,g2,g3⟩:=h.box k t cs b hk hb
 have hsz:vs'.toArray.size=vs.toArray.size:=by simp [hr.length,g2.length,hl]
 have K:Keep (fun _=>True) w η (Fix P S η) (w.setRow b vs'.toArray) η (Fix P (S.set k (.box t cs')) η):=by
  refine ⟨by simp,fun q i hq hx=>?_,fun _ _ _ hx=>hx,fun q c e hx=>?_⟩
  ·have hne:q ≠ b:=fun e=>by subst e;exact hx k _ hb hk
   refine ⟨fun j o hj hj'=>?_,cell_setRow_other w b _ _ hne⟩
   simp only [St.set] at hj'
   by_cases e:j=k
   ·subst e;rw [hj] at hb;injection hb with hb;injection hb with hb;exact absurd hb hne
   ·rw [if_neg e] at hj';exact hx j o hj hj'
  ·by_cases e':q=b
   ·subst e'
    rw [g1] at hx
    injection hx with hx
    injection hx with hx1 hx2
    subst hx1 hx2
    exact ⟨_,setRow_heap w q _ _ t _ g1,hsz⟩
   ·exact ⟨c,by rw [setRow_other w b q _ e'];exact hx,rfl⟩
 have hlive:(S.ob k).isSome=true:=by rw [hk];rfl
 refine ⟨⟨by simpa using h.base_,h.dead,fun j hj=>?_,fun j t' c' hj=>?_,fun j j' q h1 h2 h3 h4=>?_,fun j q hj=>by simpa using h.in_ j q hj,fun j t' c' q hj hj'=>?_,fun j e n q hj hj'=>?_,h.glob.below (below_setRow (Below.refl _ _) (h.in_ k b hb).1 _),fun j q l hj=>?_⟩,K,below_setRow (Below.refl _ _) (h.in_ k b hb).1 _,fun _=>Nat.le_refl _,Loops.setRow g1 _⟩
 ·have hj':S.next≤j:=hj
  have:j ≠ k:=fun e=>by subst e;rw [h.fresh j hj'] at hk;cases hk
  simp only [St.set];rw [if_neg this];exact h.fresh j hj'
 ·simp only [St.set] at hj
  by_cases e:j=k
  ·subst e;exact ⟨b,hb⟩
  ·rw [if_neg e] at hj;exact h.live j t' c' hj
 ·have live:∀ i,((S.set k (.box t cs')).ob i).isSome=true→(S.ob i).isSome=true:=fun i hi=>by
   simp only [St.set] at hi
   by_cases e:i=k
   ·subst e;exact hlive
   ·rwa [if_neg e] at hi
  exact h.inj j j' q h1 h2 (live j h3) (live j' h4)
 ·simp only [St.set] at hj
  by_cases e:j=k
  ·subst e
   rw [if_pos rfl] at hj
   injection hj with hj
   injection hj with hj1 hj2
   subst hj1 hj2
   rw [hb] at hj'
   injection hj' with hj'
   injection hj' with hj'
   subst hj'
   exact ⟨vs',setRow_heap w b _ _ t _ g1,RepL.keep K (allL_true _) hr,h1⟩
  ·rw [if_neg e] at hj
   obtain ⟨us,k1,k2,k3⟩:=h.box j t' c' q hj hj'
   have hne:q ≠ b:=fun e'=>by subst e';exact e (h.inj j k q hj' hb (by rw [hj];rfl) hlive)
   exact ⟨us,by rw [setRow_other w b q _ hne];exact k1,RepL.keep K (allL_true _) k2,k3⟩
 ·simp only [St.set] at hj
  by_cases e':j=k
  ·subst e';rw [if_pos rfl] at hj;cases hj
  ·rw [if_neg e'] at hj
   obtain ⟨c,k1,k2⟩:=h.row j e n q hj hj'
   have hne:q ≠ b:=fun e''=>by subst e'';exact e' (h.inj j k q hj' hb (by rw [hj];rfl) hlive)
   exact ⟨c,by rw [setRow_other w b q _ hne];exact k1,k2⟩
 ·simp only [St.set] at hj
  by_cases e':j=k
  ·subst e';rw [if_pos rfl] at hj;cases hj
  ·rw [if_neg e'] at hj
   obtain ⟨k1,es,c,k2,k3⟩:=h.mp j q l hj
   have hne:q ≠ b:=fun e''=>by subst e'';exact e' (h.inj j k q k1 hb (by rw [hj];rfl) hlive)
   exact ⟨k1,es,c,by rw [setRow_other w b q _ hne];exact k2,k3⟩
theorem goes_drop (h:Mem P base S η w) (g:Nat):Goes P base S η w (S.drop g) η w:=by
 have sub:∀ k o,(S.drop g).ob k=some o→S.ob k=some o:=fun k o hk=>by
  simp only [St.drop] at hk
  by_cases e:k=g
  ·rw [if_pos e] at hk;cases hk
  ·rwa [if_neg e] at hk
 have subS:∀ k,((S.drop g).ob k).isSome=true→(S.ob k).isSome=true:=fun k hk=>by
  obtain ⟨o,ho⟩:=Option.isSome_iff_exists.1 hk
  rw [sub k o ho];rfl
 have K:Keep (fun _=>True) w η (Fix P S η) w η (Fix P (S.drop g) η):=⟨Nat.le_refl _,fun b i _ hx=>⟨fun k o hk hk'=>hx k o hk (sub k o hk'),rfl⟩,fun _ _ _ hx=>hx,fun _ c _ hx=>⟨c,hx,rfl⟩⟩
 refine ⟨⟨h.base_,h.dead,fun k hk=>?_,fun k t cs hk=>h.live k t cs (sub _ _ hk),fun k k' b h1 h2 h3 h4=>h.inj k k' b h1 h2 (subS k h3) (subS k' h4),h.in_,fun k t cs b h1 h2=>?_,fun k e n b h1 h2=>h.row k e n b (sub _ _ h1) h2,h.glob,fun k b l hk=>h.mp k b l (sub _ _ hk)⟩,K,Below.refl _ _,fun _=>Nat.le_refl _,Loops.refl _⟩
 ·have:=h.fresh k hk
  simp only [St.drop]
  rw [this];split <;> rfl
 ·obtain ⟨vs,k1,k2,k3⟩:=h.box k t cs b (sub _ _ h1) h2
  exact ⟨vs,k1,RepL.keep K (allL_true _) k2,k3⟩
theorem goes_leave (h:Mem P base S η w) (o:Own):Goes P base S η w (S.leave o) η w:=by
 cases o with
 | row g=>exact goes_drop h g
 | no=>exact Goes.refl h
 | full=>exact Goes.refl h
theorem goes_bare (h:Mem P base S η w) (e:TypeId) (n:Nat):Goes P base S η w (S.add (.row e n)) (η.add S.next none) w:=by
 have hd:=h.dead S.next (Nat.le_refl _)
 have hold:∀ k b,η k=some b→k ≠ S.next:=fun k b hk e=>by subst e;rw [hd] at hk;cases hk
 have old:∀ k b,(η.add S.next none) k=some (some b)→k ≠ S.next∧η k=some (some b):=fun k b hk=>by
  simp only [Names.add] at hk
  by_cases e':k=S.next
  ·rw [if_pos e'] at hk;injection hk with hk;cases hk
  ·rw [if_neg e'] at hk;exact ⟨e',hk⟩
 have sub:∀ k o,k ≠ S.next→(S.add (.row e n)).ob k=some o→S.ob k=some o:=fun k o hk hk'=>by
  simp only [St.add] at hk'
  rwa [if_neg hk] at hk'
 have subS:∀ k,k ≠ S.next→((S.add (.row e n)).ob k).isSome=true→(S.ob k).isSome=true:=fun k hk hk'=>by
  obtain ⟨o,ho⟩:=Option.isSome_iff_exists.1 hk'
  rw [sub k o hk ho];rfl
 have K:Keep (fun _=>True) w η (Fix P S η) w (η.add S.next none) (Fix P (S.add (.row e n)) (η.add S.next none)) :=
  ⟨Nat.le_refl _,fun b i _ hx=>⟨fun k o hk hk'=>hx k o (old k b hk).2 (sub k o (old k b hk).1 hk'),rfl⟩,fun k b _ hk=>by simp only [Names.add];rw [if_neg (hold k b hk)];exact hk,fun _ c _ hx=>⟨c,hx,rfl⟩⟩
 refine ⟨⟨h.base_,fun k hk=>?_,fun k hk=>?_,fun k t cs hk=>?_,fun k k' b h1 h2 h3 h4=>h.inj k k' b (old k b h1).2 (old k' b h2).2 (subS k (old k b h1).1 h3) (subS k' (old k' b h2).1 h4),fun k b hk=>h.in_ k b (old k b hk).2,fun k t cs b h1 h2=>?_,fun k e n b h1 h2=>h.row k e n b (sub _ _ (old k b h2).1 h1) (old k b h2).2,h.glob,fun k b l hk=>?_⟩,K,Below.refl _ _,fun _=>Nat.le_refl _,Loops.refl _⟩
 ·have hk':S.next+1≤k:=hk
  simp only [Names.add];rw [if_neg (by omega)];exact h.dead k (by omega)
 ·have hk':S.next+1≤k:=hk
  simp only [St.add];rw [if_neg (by omega)];exact h.fresh k (by omega)
 ·by_cases e':k=S.next
  ·simp only [St.add] at hk;rw [if_pos e'] at hk;cases hk
  ·obtain ⟨b,hb⟩:=h.live k t cs (sub k _ e' hk)
   exact ⟨b,by simp only [Names.add];rw [if_neg e'];exact hb⟩
 ·obtain ⟨vs,k1,k2,k3⟩:=h.box k t cs b (sub _ _ (old k b h2).1 h1) (old k b h2).2
  exact ⟨vs,k1,RepL.keep K (allL_true _) k2,k3⟩
 ·by_cases e':k=S.next
  ·simp only [St.add] at hk;rw [if_pos e'] at hk;cases hk
  ·obtain ⟨k1,es,c,k2,k3⟩:=h.mp k b l (sub k _ e' hk)
   exact ⟨by simp only [Names.add];rw [if_neg e'];exact k1,es,c,k2,k3⟩
theorem grow_ob (S:St) (g:Nat) (e:TypeId) (n k:Nat):(S.grow (.row g) e n).ob k=if k=S.next then some (.row e n) else if k=g then none else S.ob k:=rfl
theorem goes_room (h:Mem P base S η w) {g b n n':Nat} {e:TypeId} {cur cur':Array Value} (hg:S.ob g=some (.row e n)) (hb:η g=some (some b)) (hc:w.heap[b]? = some (.cells cur e (0,0))) (hs:cur'.size=cur.size)
  (hsame:∀ j,j<n * szOf P e→cur'[j]? = cur[j]?) (hn:n≤n') (hn':n' * szOf P e≤cur.size) :
  Goes P base S η w (S.grow (.row g) e n') (η.add S.next (some b)) (w.setRow b cur'):=by
 have hd:=h.dead S.next (Nat.le_refl _)
 have hold:∀ k c,η k=some c→k ≠ S.next:=fun k c hk e=>by subst e;rw [hd] at hk;cases hk
 have hlive:(S.ob g).isSome=true:=by rw [hg];rfl
 have sub:∀ k o,k ≠ S.next→(S.grow (.row g) e n').ob k=some o→S.ob k=some o∧k ≠ g:=fun k o hk hk'=>by
  rw [grow_ob] at hk'
  rw [if_neg hk] at hk'
  by_cases e':k=g
  ·rw [if_pos e'] at hk';cases hk'
  ·rw [if_neg e'] at hk';exact ⟨hk',e'⟩
 have subS:∀ k,k ≠ S.next→((S.grow (.row g) e n').ob k).isSome=true→(S.ob k).isSome=true∧k ≠ g:=fun k hk hk'=>by
  obtain ⟨o,ho⟩:=Option.isSome_iff_exists.1 hk'
  obtain ⟨h1,h2⟩:=sub k o hk ho
  exact ⟨by rw [h1];rfl,h2⟩
 have at_:(S.grow (.row g) e n').ob S.next=some (.row e n'):=by rw [grow_ob,if_pos rfl]
 have K:Keep (fun _=>True) w η (Fix P S η) (w.setRow b cur') (η.add S.next (some b)) (Fix P (S.grow (.row g) e n') (η.add S.next (some b))):=by
  refine ⟨by simp,fun q i hq hx=>?_,fun k c _ hk=>?_,fun q c e' hx=>?_⟩
  ·refine ⟨fun k o hk hk'=>?_,?_⟩
   ·by_cases e':k=S.next
    ·subst e'
     rw [at_] at hk'
     injection hk' with hk'
     subst hk'
     simp only [Names.add,↓reduceIte] at hk
     injection hk with hk
     injection hk with hk
     subst hk
     have:=hx g _ hb hg
     exact Nat.lt_of_lt_of_le this (Nat.mul_le_mul_right _ hn)
    ·simp only [Names.add] at hk
     rw [if_neg e'] at hk
     exact hx k o hk (sub k o e' hk').1
   ·by_cases e':q=b
    ·subst e'
     have:=hx g _ hb hg
     rw [cell_setRow_same w q i _ _ e _ hc,cell_of_row w q i cur e (0,0) hc]
     exact hsame i this
    ·exact cell_setRow_other w b _ _ e'
  ·simp only [Names.add];rw [if_neg (hold k c hk)];exact hk
  ·by_cases e'':q=b
   ·subst e''
    rw [hc] at hx
    injection hx with hx
    injection hx with hx1 hx2
    subst hx1 hx2
    exact ⟨cur',setRow_heap w q _ _ e _ hc,hs⟩
   ·exact ⟨c,by rw [setRow_other w b q _ e''];exact hx,rfl⟩
 refine ⟨⟨by simpa using h.base_,fun k hk=>?_,fun k hk=>?_,fun k t cs hk=>?_,fun k k' q h1 h2 h3 h4=>?_,fun k q hk=>?_,fun k t cs q h1 h2=>?_,fun k e' m q h1 h2=>?_,h.glob.below (below_setRow (Below.refl _ _) (h.in_ g b hb).1 _),fun k q l hk=>?_⟩,K,below_setRow (Below.refl _ _) (h.in_ g b hb).1 _,fun _=>Nat.le_refl _,Loops.setRow hc _⟩
 ·have hk':S.next+1≤k:=hk
  simp only [Names.add];rw [if_neg (by omega)];exact h.dead k (by omega)
 ·have hk':S.next+1≤k:=hk
  rw [grow_ob,if_neg (by omega)]
  rw [h.fresh k (by omega)];split <;> rfl
 ·by_cases e':k=S.next
  ·subst e';rw [at_] at hk;cases hk
  ·obtain ⟨c,hc'⟩:=h.live k t cs (sub k _ e' hk).1
   exact ⟨c,by simp only [Names.add];rw [if_neg e'];exact hc'⟩
 ·simp only [Names.add] at h1 h2
  by_cases e':k=S.next <;> by_cases e'':k'=S.next
  ·omega
  ·rw [if_pos e'] at h1;rw [if_neg e''] at h2
   injection h1 with h1
   injection h1 with h1
   subst h1
   have:=subS k' e'' h4
   exact absurd (h.inj k' g b h2 hb this.1 hlive) this.2
  ·rw [if_neg e'] at h1;rw [if_pos e''] at h2
   injection h2 with h2
   injection h2 with h2
   subst h2
   have:=subS k e' h3
   exact absurd (h.inj k g b h1 hb this.1 hlive) this.2
  ·rw [if_neg e'] at h1;rw [if_neg e''] at h2
   exact h.inj k k' q h1 h2 (subS k e' h3).1 (subS k' e'' h4).1
 ·simp only [Names.add] at hk
  by_cases e':k=S.next
  ·rw [if_pos e'] at hk;injection hk with hk;injection hk with hk;subst hk;simpa using h.in_ g b hb
  ·rw [if_neg e'] at hk;simpa using h.in_ k q hk
 ·by_cases e':k=S.next
  ·subst e';rw [at_] at h1;cases h1
  ·simp only [Names.add] at h2
   rw [if_neg e'] at h2
   obtain ⟨s1,s2⟩:=sub k _ e' h1
   obtain ⟨vs,k1,k2,k3⟩:=h.box k t cs q s1 h2
   have hne:q ≠ b:=fun e''=>by subst e'';exact s2 (h.inj k g q h2 hb (by rw [s1];rfl) hlive)
   exact ⟨vs,by rw [setRow_other w b q _ hne];exact k1,RepL.keep K (allL_true _) k2,k3⟩
 ·by_cases e'':k=S.next
  ·subst e''
   rw [at_] at h1
   injection h1 with h1
   injection h1 with h1a h1b
   subst h1a h1b
   simp only [Names.add,↓reduceIte] at h2
   injection h2 with h2
   injection h2 with h2
   subst h2
   exact ⟨cur',setRow_heap w b _ _ e _ hc,by rw [hs];exact hn'⟩
  ·simp only [Names.add] at h2
   rw [if_neg e''] at h2
   obtain ⟨s1,s2⟩:=sub k _ e'' h1
   obtain ⟨c,k1,k2⟩:=h.row k e' m q s1 h2
   have hne:q ≠ b:=fun e3=>by subst e3;exact s2 (h.inj k g q h2 hb (by rw [s1];rfl) hlive)
   exact ⟨c,by rw [setRow_other w b q _ hne];exact k1,k2⟩
 ·by_cases e'':k=S.next
  ·subst e'';rw [at_] at hk;cases hk
  ·obtain ⟨s1,s2⟩:=sub k _ e'' hk
   obtain ⟨k1,es,c,k2,k3⟩:=h.mp k q l s1
   have hne:q ≠ b:=fun e3=>by subst e3;exact s2 (h.inj k g q k1 hb (by rw [s1];rfl) hlive)
   exact ⟨by simp only [Names.add];rw [if_neg e''];exact k1,es,c,by rw [setRow_other w b q _ hne];exact k2,k3⟩

def flat (es:List D):List D:=es.flatMap D.cells
def zeroT (P:Program) (e:TypeId):Bool:=match P.info? e with
 | some i=>match i.zero with
  | some z=>z.cells.size == i.size && decide (0<i.size)
  | none=>false
 | none=>false
def bytesOf (P:Program) (e:TypeId):Nat:=((P.info? e).map (·.bytes)).getD 0
theorem zeroT_spec {e:TypeId} (h:zeroT P e=true):∃ i z,P.info? e=some i∧i.zero=some z∧z.cells.size=i.size∧0<i.size∧szOf P e=i.size∧bytesOf P e=i.bytes:=by
 unfold zeroT at h
 split at h
 ·rename_i i hi
  split at h
  ·rename_i z hz
   simp at h
   exact ⟨i,z,hi,hz,h.1,h.2,by simp [szOf,hi],by simp [bytesOf,hi]⟩
  ·cases h
 ·cases h
section
variable {X : Nat → Nat → Prop}
theorem dflat_length {z:Nat}:∀ {es:List D},(∀ d∈es,d.width=z)→(flat es).length=es.length * z
 | [],_=>by simp [flat]
 | d::es,h=>by
  have h1:=dflat_length (es:=es) fun d' hd=>h d' (by simp [hd])
  have h2:d.cells.length=z:=h d (by simp)
  simp only [flat,List.flatMap_cons,List.length_append,List.length_cons] at *
  rw [h1,h2,Nat.add_mul];omega
theorem RepC.append {w:World} {η:Names} {X:Nat→Nat→Prop}:∀ {l m:List D} {b o:Nat},RepC P w η X l b o→RepC P w η X m b (o+l.length)→RepC P w η X (l++m) b o
 | [],m,b,o,_,h=>by simpa using h
 | d::l,m,b,o,h,k=>by
  simp only [RepC,List.cons_append] at *
  exact ⟨h.1,RepC.append h.2 (by rwa [show o+1+l.length=o+(d::l).length by simp;omega])⟩
theorem RepC.left {w:World} {η:Names} {X:Nat→Nat→Prop}:∀ {l m:List D} {b o:Nat},RepC P w η X (l++m) b o→RepC P w η X l b o∧RepC P w η X m b (o+l.length)
 | [],m,b,o,h=>⟨by simp [RepC],by simpa using h⟩
 | d::l,m,b,o,h=>by
  simp only [RepC,List.cons_append] at *
  obtain ⟨h1,h2⟩:=RepC.left h.2
  exact ⟨⟨h.1,h1⟩,by rwa [show o+(d::l).length=o+1+l.length by simp;omega]⟩
theorem RepE.flat {w:World} {η:Names} {X:Nat→Nat→Prop} {z:Nat}:∀ {es:List D} {b o:Nat},RepE P w η X z es b o→(∀ d∈es,d.width=z)∧RepC P w η X (flat es) b o
 | [],b,o,_=>⟨fun d h=>(by cases h),by simp [Proofs.YtogbklnkpjjkoaaGreatDoor.flat,RepC]⟩
 | d::es,b,o,h=>by
  obtain ⟨h1,h2⟩:=RepE.cons.1 h
  obtain ⟨h3,h4⟩:=RepE.flat h2
  have h5:=h1.cells
  refine ⟨fun d' hd=>?_,?_⟩
  ·rcases List.mem_cons.1 hd with rfl | hd
   ·exact h5.1
   ·exact h3 d' hd
  ·simp only [Proofs.YtogbklnkpjjkoaaGreatDoor.flat,List.flatMap_cons]
   refine RepC.append h5.2 ?_
   have:d.cells.length=z:=h5.1
   rw [this]
   exact h4
theorem RepE.of_flat {w:World} {η:Names} {X:Nat→Nat→Prop} {z:Nat}:∀ {es:List D} {b o:Nat},(∀ d∈es,d.width=z)→RepC P w η X (Proofs.YtogbklnkpjjkoaaGreatDoor.flat es) b o→RepE P w η X z es b o
 | [],b,o,_,_=>by simp [RepE]
 | d::es,b,o,hw,h=>by
  simp only [Proofs.YtogbklnkpjjkoaaGreatDoor.flat,List.flatMap_cons] at h
  obtain ⟨h1,h2⟩:=RepC.left h
  have hz:d.width=z:=hw d (by simp)
  have:=RepEl.mk h1
  rw [hz] at this
  refine RepE.cons.2 ⟨this,RepE.of_flat (fun d' hd=>hw d' (by simp [hd])) ?_⟩
  have e:d.cells.length=z:=hz
  rw [e] at h2
  exact h2
theorem rep_src {own:Own} {es:List D} {v:Value} {tx:TypeId} {z:Nat} (hz:0<z) (h:Rep P w η X (.sl own es) v) (ht:(elT P tx).isSome=true) (hw:∀ d∈es,d.width=z) :
  ∃ news,Src P z tx v es.length news w∧RepL P w η X (flat es) news∧(∀ x∈news,x.oneCell'=true)∧∃ A c,v=.slice A es.length c∧es.length≤c∧OwnAt P w η A es.length c own∧(0<es.length→∃ b o,A=some ⟨b,o,none⟩∧w.rangeAt b o news∧∀ j,j<news.length→X b (o+j)):=by
 simp only [Rep] at h
 obtain ⟨A,c,rfl,h1,h2,h3,h4⟩:=h
 obtain ⟨e',he'⟩:=Option.isSome_iff_exists.1 ht
 have hk:=elT_spec he'
 rcases Nat.eq_zero_or_pos es.length with h0 | h0
 ·have:es=[]:=List.eq_nil_of_length_eq_zero h0
  subst this
  refine ⟨[],?_,by simp [flat,RepL],(fun x hx=>by cases hx),A,c,rfl,h1,h3,fun hn=>absurd hn (by simp)⟩
  cases A with
  | none=>exact Src.ofNil w hk c
  | some a=>exact Src.ofSlice w hk a 0 c [] (by simp) (fun j u hu=>by simp at hu) (fun u hu=>by cases hu)
 ·obtain ⟨b,o,z',rfl,hz',hr⟩:=h4 h0
  obtain ⟨k1,k2⟩:=RepE.flat hr
  obtain ⟨vs,g1,g2,g3,g4⟩:=k2.range
  have hl:vs.length=es.length * z:=by rw [g1,dflat_length hw]
  refine ⟨vs,Src.ofSlice w hk _ _ c vs hl (fun j u hu=>by rw [Addr.add_mid];exact g2 j u hu) g4,g3,g4,_,c,rfl,h1,h3,fun _=>⟨b,o,rfl,g2,fun j hj=>?_⟩⟩
  have:∀ {l:List D} {o j:Nat},RepC P w η X l b o→j<l.length→X b (o+j):=by
   intro l
   induction l with
   | nil=>intro o j _ hj;simp at hj
   | cons d l ih =>
    intro o j h hj
    simp only [RepC] at h
    cases j with
    | zero=>exact h.1.1
    | succ j=>have:=ih h.2 (by simpa using hj:j<l.length);rwa [show o+1+j=o+(j+1) by omega] at this
  exact this k2 (by omega)
end
theorem run_append_room_row (w:World) (t tx ty e:TypeId) (i:TypeInfo) (ht:P.underlying t=some (.slice e)) (hi:P.info? e=some i) (b sLen sCap:Nat) (x:Value) (n:Nat) (news:List Value) (hs:Src P i.size tx x n news w)
  (cur:Array Value) (hg:w.heap[b]? = some (.cells cur e (0,0))) (hroom:sLen+n≤sCap) (hfit:sLen * i.size+news.length≤cur.size) :
  (Builtin.append_ #[t,tx] ty #[.slice (some ⟨b,0,none⟩) sLen sCap,x]).run P w=.ok (.slice (some ⟨b,0,none⟩) (sLen+n) sCap) (w.setRow b (cur.toList.take (sLen * i.size)++news++cur.toList.drop (sLen * i.size+news.length)).toArray):=by
 have hst:=run_storeCells_at P b (sLen * i.size) e news 0 cur w hg (by simpa using hfit) hs.one
 simp only [Nat.add_zero] at hst
 rcases hs.kind with ⟨e',hk⟩ | hk <;> simp [Builtin.append_,run_underlying ht,run_underlying hk,sizeOf,typeInfo,hi,hs.len,hroom,hs.cells,Addr.add_lit,hst]

theorem append_stepS (hM:Mem P base S η w) {own:Own} {es es2:List D} {v x:Value} {t tx ty e:TypeId} (hv:Rep P w η (Fix P S η) (.sl own es) v) {news:List Value} (hs:Src P (szOf P e) tx x es2.length news w) (hr:RepL P w η (Fix P S η) (flat es2) news) (h1:∀ u∈news,u.oneCell'=true)
  (ht:elT P t=some e) (hz:zeroT P e=true) (hw1:∀ d∈es,d.width=szOf P e) (hw2:∀ d∈es2,d.width=szOf P e)
  (hown:own=.full∨∃ g,own=.row g∧S.ob g=some (.row e es.length)) (hlen:es.length+es2.length≤140737488355328) (hby:(es.length+es2.length) * bytesOf P e≤140737488355328) :
  ∃ v' η' w',(Builtin.append_ #[t,tx] ty #[v,x]).run P w=.ok v' w'∧Goes P base S η w (S.grow own e (es.length+es2.length)) η' w'∧Rep P w' η' (Fix P (S.grow own e (es.length+es2.length)) η') (.sl (.row S.next) (es++es2)) v':=by
 obtain ⟨i,z,hi,hzr,hzs,hpos,hsz,hbz⟩:=zeroT_spec hz
 have hu:=elT_spec ht
 have hpos':0<szOf P e:=by omega
 obtain ⟨olds,hso,hro,h1o,A,c,rfl,hc,ho,hA⟩:=rep_src (tx:=t) hpos' hv (by rw [ht];rfl) hw1
 have hlo:=hso.newsLen
 have hln:=hs.newsLen
 have hnext:(S.leave own).next=S.next:=by cases own <;> rfl
 rw [hsz] at hs hso hlo hln
 by_cases hgrow:c<es.length+es2.length
 ·
  have hcold:=hso.cellsD
  have hrun:=run_append_grow_src (P:=P) w t tx ty e i z hu hi hzr A es.length c olds hcold x es2.length news hs hgrow (by omega) (growslice_fits hgrow (by rw [← hbz];exact hby))
  have G1:=goes_drew hM
  have G2:=G1.trans (goes_leave G1.mem own)
  have hge:=grownCap_ge w (es.length+es2.length) c e
  have hsize:((olds++news).toArray++Builtin.zeroCells z.cells (grownCap w (es.length+es2.length) c e - (es.length+es2.length))).size=grownCap w (es.length+es2.length) c e * szOf P e:=by
   rw [Array.size_append,List.size_toArray,size_zeroCells,hzs,hsz,List.length_append,hlo,hln,← Nat.add_mul,← Nat.add_mul]
   congr 1;omega
  have G3:=G2.trans (goes_name G2.mem (.row e (es.length+es2.length)) ((olds++news).toArray++Builtin.zeroCells z.cells (grownCap w (es.length+es2.length) c e - (es.length+es2.length))) e (.inr ⟨_,rfl,by rw [hsize];exact Nat.mul_le_mul_right _ hge⟩))
  refine ⟨_,_,_,hrun,G3,?_⟩
  simp only [Rep]
  have hnew:=heap_alloc_new w.drew (.cells ((olds++news).toArray++Builtin.zeroCells z.cells (grownCap w (es.length+es2.length) c e - (es.length+es2.length))) e)
  have hη:(η.add (S.leave own).next (some w.drew.heap.size)) S.next=some w.heap.size:=by simp only [Names.add,hnext,↓reduceIte];rfl
  refine ⟨_,_,by rw [List.length_append],by rw [List.length_append];exact hge,by rw [List.length_append];exact hlen,.inr ⟨w.heap.size,_,e,hη,rfl,hnew,hsize⟩,fun _=>⟨w.heap.size,0,szOf P e,rfl,hpos',?_⟩⟩
  refine RepE.of_flat (fun d hd=>(List.mem_append.1 hd).elim (hw1 d) (hw2 d)) ?_
  have hfl:flat (es++es2)=flat es++flat es2:=by simp [flat]
  rw [hfl]
  refine RepC.mk (RepL.append (G3.repL hro) (G3.repL hr)) (fun j u hj=>?_) (fun j hj=>?_) (fun u hu'=>(List.mem_append.1 hu').elim (h1o u) (h1 u))
  ·have:=cell_of_row _ w.drew.heap.size (0+j) _ e (0,0) hnew
   rw [show (⟨w.heap.size,0+j,none⟩:Addr)=⟨w.drew.heap.size,0+j,none⟩ from rfl,this,Nat.zero_add]
   have hlt:j<(olds++news).length:=(List.getElem?_eq_some_iff.1 hj).1
   rw [Array.getElem?_append_left (by simpa using hlt)]
   simpa using hj
  ·intro k o hk hk'
   have hin:=G2.mem.in_
   by_cases e':k=S.next
   ·subst e'
    simp only [St.grow,St.add,hnext,↓reduceIte] at hk'
    injection hk' with hk'
    subst hk'
    have:j<(olds++news).length:=hj
    rw [List.length_append,hlo,hln,← Nat.add_mul] at this
    show 0+j<(es.length+es2.length) * szOf P e
    rw [hsz];omega
   ·simp only [Names.add,hnext] at hk
    rw [if_neg e'] at hk
    have h2:w.heap.size<w.heap.size:=(hin k _ hk).2
    omega
 ·
  have hle:es.length+es2.length≤c:=by omega
  have virt:es2.length=0→c=es.length→∃ v' η' w',(Builtin.append_ #[t,tx] ty #[.slice A es.length c,x]).run P w=.ok v' w'∧Goes P base S η w (S.grow own e (es.length+es2.length)) η' w'∧Rep P w' η' (Fix P (S.grow own e (es.length+es2.length)) η') (.sl (.row S.next) (es++es2)) v':=by
   intro h0 hcn
   have he2:es2=[]:=List.eq_nil_of_length_eq_zero h0
   subst he2
   have hn0:news=[]:=List.eq_nil_of_length_eq_zero (by rw [hln];simp)
   subst hn0
   have G2:=goes_leave hM own
   have G3:=G2.trans (goes_bare G2.mem e (es.length+([]:List D).length))
   refine ⟨_,_,w,run_append_nothing w t tx ty e i hu hi A es.length c hc x hs,G3,?_⟩
   have:=G3.rep hv
   simp only [Rep] at this ⊢
   rw [List.append_nil]
   obtain ⟨A',c',e1,e2,e3,_,e5⟩:=this
   injection e1 with e1a e1b e1c
   subst e1a e1c
   exact ⟨A,c,rfl,e2,e3,.inl ⟨by simp only [Names.add,hnext,↓reduceIte],hcn⟩,e5⟩
  rcases hown with rfl | ⟨g,rfl,hg⟩
  ·have hcn:c=es.length:=ho
   exact virt (by omega) hcn
  ·rcases ho with hcn | ⟨b,cur,e',hb,rfl,hcur,hcs⟩
   ·exact virt (by omega) hcn.2
   ·obtain ⟨cur',k1,k2⟩:=hM.row g e es.length b hg hb
    rw [hcur] at k1
    injection k1 with k1
    injection k1 with k1a k1b
    subst k1a k1b
    have hfit:es.length * i.size+news.length≤cur.size:=by
     rw [hln,hcs,hsz,← Nat.add_mul]
     exact Nat.mul_le_mul_right _ hle
    have hrun:=run_append_room_row w t tx ty e' i hu hi b es.length c x es2.length news hs cur hcur hle hfit
    have hsame:∀ j,j<es.length * szOf P e'→(cur.toList.take (es.length * i.size)++news++cur.toList.drop (es.length * i.size+news.length)).toArray[j]? = cur[j]? := fun j hj=>by
     rw [hsz] at hj
     have hl1:j<(cur.toList.take (es.length * i.size)).length:=by have hcl:cur.toList.length=cur.size:=Array.length_toList;rw [List.length_take,hcl];omega
     rw [List.getElem?_toArray,List.append_assoc,List.getElem?_append_left hl1,List.getElem?_take,if_pos hj,Array.getElem?_toList]
    have hcsz:(cur.toList.take (es.length * i.size)++news++cur.toList.drop (es.length * i.size+news.length)).toArray.size=cur.size:=by
     simp only [List.size_toArray,List.length_append,List.length_take,List.length_drop,Array.length_toList]
     omega
    have G:=goes_room hM hg hb hcur hcsz hsame (Nat.le_add_right _ es2.length) (by rw [hcs];exact Nat.mul_le_mul_right _ hle)
    refine ⟨_,_,_,hrun,G,?_⟩
    have hnew:=setRow_heap w b cur (cur.toList.take (es.length * i.size)++news++cur.toList.drop (es.length * i.size+news.length)).toArray e' (0,0) hcur
    simp only [Rep]
    refine ⟨_,c,by rw [List.length_append],by rw [List.length_append];exact hle,by rw [List.length_append];exact hlen,.inr ⟨b,_,e',by simp only [Names.add,↓reduceIte],rfl,hnew,by rw [hcsz,hcs]⟩,fun _=>⟨b,0,szOf P e',rfl,hpos',?_⟩⟩
    refine RepE.of_flat (fun d hd=>(List.mem_append.1 hd).elim (hw1 d) (hw2 d)) ?_
    have hfl:flat (es++es2)=flat es++flat es2:=by simp [flat]
    rw [hfl]
    have hold:cur.toList.take (es.length * i.size)=olds:=by
     apply List.ext_getElem?
     intro j
     rw [List.getElem?_take]
     by_cases hj:j<es.length * i.size
     ·rw [if_pos hj]
      have h0:0<es.length:=by
       rcases Nat.eq_zero_or_pos es.length with h | h
       ·rw [h] at hj;simp at hj
       ·exact h
      obtain ⟨b',o',hA1,hA2,_⟩:=hA h0
      injection hA1 with hA1
      injection hA1 with hA1a hA1b
      subst hA1a hA1b
      have hlt:j<olds.length:=by omega
      have h3:=hA2 j _ (List.getElem?_eq_getElem hlt)
      rw [Nat.zero_add,cell_of_row w b j cur e' (0,0) hcur] at h3
      rw [Array.getElem?_toList,h3,List.getElem?_eq_getElem hlt]
     ·rw [if_neg hj,List.getElem?_eq_none (by omega)]
    refine RepC.mk (RepL.append (G.repL hro) (G.repL hr)) (fun j u hj=>?_) (fun j hj=>?_) (fun u hu'=>(List.mem_append.1 hu').elim (h1o u) (h1 u))
    ·rw [cell_of_row _ b (0+j) _ e' (0,0) hnew,Nat.zero_add,hold]
     have hlt:j<(olds++news).length:=(List.getElem?_eq_some_iff.1 hj).1
     rw [List.getElem?_toArray,List.getElem?_append_left hlt]
     exact hj
    ·intro k o hk hk'
     by_cases e3:k=S.next
     ·subst e3
      rw [grow_ob,if_pos rfl] at hk'
      injection hk' with hk'
      subst hk'
      have:j<(olds++news).length:=hj
      rw [List.length_append,hlo,hln,← Nat.add_mul] at this
      show 0+j<(es.length+es2.length) * szOf P e'
      rw [hsz];omega
     ·simp only [Names.add] at hk
      rw [if_neg e3] at hk
      rw [grow_ob,if_neg e3] at hk'
      by_cases e4:k=g
      ·rw [if_pos e4] at hk';cases hk'
      ·rw [if_neg e4] at hk'
       exact absurd (hM.inj k g b hk hb (by rw [hk'];rfl) (by rw [hg];rfl)) e4
theorem append_step (hM:Mem P base S η w) {own own2:Own} {es es2:List D} {v x:Value} {t tx ty e:TypeId} (hv:Rep P w η (Fix P S η) (.sl own es) v) (hx:Rep P w η (Fix P S η) (.sl own2 es2) x)
  (ht:elT P t=some e) (htx:(elT P tx).isSome=true) (hz:zeroT P e=true) (hw1:∀ d∈es,d.width=szOf P e) (hw2:∀ d∈es2,d.width=szOf P e)
  (hown:own=.full∨∃ g,own=.row g∧S.ob g=some (.row e es.length)) (hlen:es.length+es2.length≤140737488355328) (hby:(es.length+es2.length) * bytesOf P e≤140737488355328) :
  ∃ v' η' w',(Builtin.append_ #[t,tx] ty #[v,x]).run P w=.ok v' w'∧Goes P base S η w (S.grow own e (es.length+es2.length)) η' w'∧Rep P w' η' (Fix P (S.grow own e (es.length+es2.length)) η') (.sl (.row S.next) (es++es2)) v':=by
 obtain ⟨i,z,hi,hzr,hzs,hpos,hsz,hbz⟩:=zeroT_spec hz
 have hpos':0<szOf P e:=by omega
 obtain ⟨news,hs,hr,h1,_⟩:=rep_src (tx:=tx) hpos' hx htx hw2
 exact append_stepS hM hv hs hr h1 ht hz hw1 hw2 hown hlen hby
end

def D.okCell:D→Bool
 | .tup _=>false
 | .v (.tuple _)=>false
 | .v (.agg _)=>false
 | _=>true
def splice (cs:List D) (off:Nat) (ds:List D):List D:=cs.take off++ds++cs.drop (off+ds.length)
def fillD (pl:Nat→Option (Nat × Nat)):List D→List (Nat × D)→Prop × List D
 | cs,[]=>(True,cs)
 | cs,(i,d)::r=>match pl i with
  | some (off,n)=>(d.okCell=true∧d.width=n∧off+n≤cs.length∧(fillD pl (splice cs off d.cells) r).1,(fillD pl (splice cs off d.cells) r).2)
  | none=>(False,cs)
def zeroD (P:Program) (t:TypeId):List D:=match (P.info? t).bind (·.zero) with
 | some z=>z.cells.toList.map ofV
 | none=>[]
def zeroOk (P:Program) (t:TypeId):Bool:=(P.underlying t).isSome && match P.info? t with
 | some i=>match i.zero with
  | some z=>z.cells.all (·.oneCell') && z.cells.size == i.size
  | none=>false
 | none=>false
def placeT (P:Program) (t:TypeId):Option (Nat→Option (Nat × Nat)):=match P.underlying t with
 | some (.struct fs)=>bif fs.all (fun f=>(P.info? f.type).isSome) then some fun i=>(fs[i]?).map fun f=>(f.offset,szOf P f.type) else none
 | some (.array _ e)=>bif (P.info? e).isSome then some fun i=>some (i * szOf P e,szOf P e) else none
 | _=>none

def appWin (P:Program) (S:St) (e tx:TypeId) (own:Own) (es es2:List D) (K:D→St→Prop):Prop :=
 own=.full∧es=[]∧0<es2.length∧(elT P tx).isSome=true∧zeroT P e=true∧zeroOk P e=true∧(∀ d∈es2,d.width=szOf P e)∧es2.length≤140737488355328∧es2.length * bytesOf P e≤140737488355328∧∀ (c:Nat) (zs:List D),es2.length≤c→(flat es2++zs).length=c * szOf P e→K (.win S.next 0 es2.length c) (S.add (.box e (flat es2++zs)))
def DCalls (P:Program) (g:FuncId) (args:List D) (S:St) (K:D→St→Prop):Prop :=
 ∀ base η w vs,Mem P base S η w→RepL P w η (Fix P S η) args vs →
  ((callFunc g vs.toArray).run P w=.ok (.enter g vs.toArray) w ∧
   Calls P g vs.toArray w fun e w'=>∃ d S' η' v,K d S'∧e=.returned v∧Rep P w' η' (Fix P S' η') d v∧Goes P base S η w S' η' w') ∨
  ∃ d S' η' v w',(callFunc g vs.toArray).run P w=.ok (.value v) w'∧K d S'∧Rep P w' η' (Fix P S' η') d v∧Goes P base S η w S' η' w'
def DRun (P:Program) (run:List Value→Sem Value) (args:List D) (S:St) (K:D→St→Prop):Prop :=
 ∀ base η w vs,Mem P base S η w→RepL P w η (Fix P S η) args vs→∃ d S' η' v w',(run vs).run P w=.ok v w'∧K d S'∧Rep P w' η' (Fix P S' η') d v∧Goes P base S η w S' η' w'
theorem DRun.mono {P:Program} {run:List Value→Sem Value} {args:List D} {S:St} {K K':D→St→Prop} (h:DRun P run args S K) (hk:∀ d S',K d S'→K' d S'):DRun P run args S K':=fun base η w vs hM hr=>by
 obtain ⟨d,S',η',v,w',h1,h2,h3⟩:=h base η w vs hM hr
 exact ⟨d,S',η',v,w',h1,hk _ _ h2,h3⟩
def DMeth (P:Program) (t:TypeId) (d:D) (name:String) (g:FuncId) (d':D):Prop:=∀ w η X v,Rep P w η X d v→∃ v',(method (P.types.size+Made.depth) t v name).run P w=.ok (g,v') w∧Rep P w η X d' v'
def DAt (P:Program) (g:FuncId) (args:List D) (S:St) (d:D):Prop:=DCalls P g args S fun d' S'=>d'=d∧S'=S
def DPure (P:Program) (g:FuncId) (args:List D) (d:D):Prop:=∀ S,DAt P g args S d
theorem DCalls.mono {P:Program} {g:FuncId} {args:List D} {S:St} {K K':D→St→Prop} (h:DCalls P g args S K) (hk:∀ d S',K d S'→K' d S'):DCalls P g args S K':=fun base η w vs hM hr=>by
 rcases h base η w vs hM hr with ⟨h1,h2⟩ | ⟨d,S',η',v,w',h1,h2,h3⟩
 ·exact .inl ⟨h1,h2.mono fun _ _ ⟨d,S',η',v,h1,h2⟩=>⟨d,S',η',v,hk d S' h1,h2⟩⟩
 ·exact .inr ⟨d,S',η',v,w',h1,hk _ _ h2,h3⟩
def DSt (P:Program) (g:FuncId) (args:List D) (S:St) (d:D):Prop:=∀ T:St,S.next≤T.next→(∀ j o,S.ob j=some o→T.ob j=some o)→DAt P g args T d
theorem DPure.st {P:Program} {g:FuncId} {args:List D} {S:St} {d:D} (h:DPure P g args d):DSt P g args S d:=fun T _ _=>h T
theorem DCalls.of_pure {P:Program} {g:FuncId} {args:List D} {S:St} {K:D→St→Prop} {d:D} (h:DPure P g args d) (hk:K d S):DCalls P g args S K:=(h S).mono fun _ _ ⟨h1,h2⟩=>by rw [h1,h2];exact hk

def dnew (P:Program) (f:Fm) (S:St):Op→Option (Prop × D)
 | .buildSlice t n ps=>match elT P t with
  | some e=>some (zeroT P e=true∧ps.toList.map (·.1)=List.range n∧n * szOf P e≤16777216∧(∀ d∈ps.toList.map (fun p=>ev f p.2),d.okCell=true∧d.width=szOf P e),.sl .full (ps.toList.map fun p=>ev f p.2))
  | none=>none
 | .build t ps=>match placeT P t with
  | some pl=>some (zeroOk P t=true∧(fillD pl (zeroD P t) (ps.toList.map fun p=>(p.1,ev f p.2))).1,.agg (fillD pl (zeroD P t) (ps.toList.map fun p=>(p.1,ev f p.2))).2)
  | none=>none
 | .call ⟨.builtin .append,args,ts⟩=>match args.toList.map (ev f),ts.toList with
  | [.sl .full es,.sl _ es2],[t,tx]=>match elT P t with
   | some e=>some ((elT P tx).isSome=true∧zeroT P e=true∧(∀ d∈es,d.width=szOf P e)∧(∀ d∈es2,d.width=szOf P e)∧es.length+es2.length≤140737488355328∧(es.length+es2.length) * bytesOf P e≤140737488355328,.sl .no (es++es2))
   | none=>none
  | _,_=>none
 | .convert s d x=>match ev f x with
  | .v (.string str)=>match elT P d with
   | some e=>some (u8T P e=true∧strT P s=true∧str.data.toList.length≤140737488355328,.sl .no (str.data.toList.map bD))
   | none=>none
  | _=>none
 | _=>none
def onVal (o:Option (Prop × D)) (K:D→Prop):Prop:=match o with
 | some (c,d)=>c∧K d
 | none=>False
def onVal2 (o:Option (Prop × D)) (o':Option (Prop × D)) (K:D→Prop):Prop:=match o with
 | some (c,d)=>c∧K d
 | none=>onVal o' K
def orD (a b:Option (Prop × D)):Option (Prop × D):=match a with
 | some p=>some p
 | none=>b
theorem orD_some (p:Prop × D) (b:Option (Prop × D)):orD (some p) b=some p:=Eq.trans (Eq.refl _) (Eq.refl _)
theorem orD_none (b:Option (Prop × D)):orD none b=b:=Eq.trans (Eq.refl _) (Eq.refl _)
def dop (P:Program) (f:Fm) (S:St) (ty:TypeId) (op:Op) (K:D→St→Prop):Prop:=match op with
 | .alloc t=>zeroOk P t=true∧K (.loc S.next 0) (S.add (.box t (zeroD P t)))
 | .box t x=>(ev f x).okCell=true∧K (.loc S.next 0) (S.add (.box t (ev f x).cells))
 | .store t x y=>match ev f x with
  | .loc k off=>match S.ob k with
   | some (.box t' cs)=>(ev f y).okCell=true∧(P.info? t).isSome=true∧(ev f y).width=szOf P t∧off+szOf P t≤cs.length∧K undefD (S.set k (.box t' (splice cs off (ev f y).cells)))
   | _=>False
  | _=>False
 | .call ⟨.value x,args,_⟩=>match ev f x with
  | .fn (.func g) fs cs=>DCalls P g (fs++args.toList.map (ev f)++cs) S K
  | _=>False
 | .call ⟨.builtin .append,args,ts⟩=>match args.toList.map (ev f),ts.toList with
  | [.sl own es,.sl _ es2],[t,tx]=>match elT P t with
   | some e=>((elT P tx).isSome=true∧zeroT P e=true∧(∀ d∈es,d.width=szOf P e)∧(∀ d∈es2,d.width=szOf P e)∧(match own with | .full=>True | .row g=>S.ob g=some (.row e es.length) | .no=>False)∧es.length+es2.length≤140737488355328∧(es.length+es2.length) * bytesOf P e≤140737488355328∧K (.sl (.row S.next) (es++es2)) (S.grow own e (es.length+es2.length)))∨appWin P S e tx own es es2 K∨DRun P (fun vs=>Builtin.append_ ts ty vs.toArray) (args.toList.map (ev f)) S K
   | none=>False
  | .win k off n c::r,_=>DRun P (fun vs=>Builtin.append_ ts ty vs.toArray) (.win k off n c::r) S K
  | [.sl own es,.win k off n c],_=>DRun P (fun vs=>Builtin.append_ ts ty vs.toArray) [.sl own es,.win k off n c] S K
  | [.sl own es,.v u],_=>DRun P (fun vs=>Builtin.append_ ts ty vs.toArray) [.sl own es,.v u] S K
  | _,_=>False
 | .call ⟨.builtin .copy,args,ts⟩=>DRun P (fun vs=>Builtin.copy_ ts ty vs.toArray) (args.toList.map (ev f)) S K
 | .call ⟨.builtin .clear,args,ts⟩=>DRun P (fun vs=>Builtin.clear_ ts ty vs.toArray) (args.toList.map (ev f)) S K
 | .call ⟨.builtin .delete,args,ts⟩=>DRun P (fun vs=>Builtin.delete_ ts ty vs.toArray) (args.toList.map (ev f)) S K
 | .call ⟨.invoke r m,args,_⟩=>match ev f r with
  | .ifc t d=>∃ g d',DMeth P t d m g d'∧DCalls P g (d'::args.toList.map (ev f)) S K
  | _=>False
 | .makeSlice t x y=>DRun P (fun vs=>Instr.makeSlice t (vs.getD 0 undef) (vs.getD 1 undef)) [ev f x,ev f y] S K
 | .typeAssert x xt t ok=>DRun P (fun vs=>Instr.typeAssert (vs.getD 0 undef) xt t ok) [ev f x] S K
 | .lookup t x i ok=>DRun P (fun vs=>Instr.lookup t (vs.getD 0 undef) (vs.getD 1 undef) ok) [ev f x,ev f i] S K
 | .makeMap t r=>DRun P (fun vs=>Instr.makeMap t vs.head?) (r.toList.map (ev f)) S K
 | .mapUpdate t m k x=>DRun P (fun vs=>do Instr.mapUpdate t (vs.getD 0 undef) (vs.getD 1 undef) (vs.getD 2 undef);pure undef) [ev f m,ev f k,ev f x] S fun d S'=>d=undefD∧K d S'
 | .insert t m k x=>DRun P (fun vs=>do Instr.mapUpdate t (vs.getD 0 undef) (vs.getD 1 undef) (vs.getD 2 undef);pure undef) [ev f m,ev f k,ev f x] S fun d S'=>d=undefD∧K d S'
 | .buildSlice t n ps=>onVal (dnew P f S (.buildSlice t n ps)) fun d=>K d S
 | .build t ps=>onVal (dnew P f S (.build t ps)) fun d=>K d S
 | .convert s t x=>onVal (orD (dnew P f S (.convert s t x)) (dval P f S ty (.convert s t x))) fun d=>K d S
 | op=>onVal (dval P f S ty op) fun d=>K d S
def dquiet (P:Program) (f:Fm) (S:St) (ty:TypeId) (op:Op) (K:D→Prop):Prop:=match op with
 | .call ⟨.value x,args,_⟩=>match ev f x with
  | .fn (.func g) fs cs=>∃ d,DSt P g (fs++args.toList.map (ev f)++cs) S d∧K d
  | _=>False
 | op=>onVal2 (dnew P f S op) (dval P f S ty op) K
def dwanted (ops:Array Oper) (f:Fm) (o:Oper) (yes no:Prop):Prop:=match o.guard with
 | none=>yes
 | some (j,want)=>match (ops[j]?).bind (·.dst) with
  | some t=>match f t with
   | .v (.bool b)=>(b=want→yes)∧(b = !want→no)
   | .tup []=>no
   | _=>False
  | none=>False
def dlit (P:Program) (ops:Array Oper) (f:Fm) (S:St) (o:Oper) (r:List Oper) (R:Fm→St→Prop):Prop:=match o.op,r with
 | .buildSlice t n ps,o2::_=>∃ (e:TypeId) (l:List UInt8) (k:Nat),elT P t=some e∧u8T P e=true∧zeroT P e=true∧szOf P e=1∧n≤16777216∧ps.toList.map (·.1)=List.range n∧(ps.toList.map fun p=>ev f p.2)=l.map bD∧o.dst=some k∧o2.op=.convert t t (.tmp k) ∧
   dwanted ops (put f o.dst (.sl .no (l.map bD))) o2 (R (put (put f o.dst (.sl .no (l.map bD))) o2.dst (.sl .no (l.map bD))) S) False
 | _,_=>False
def dbs (op:Op) (r:List Oper) (A B:Prop):Prop:=match op,r with
 | .buildSlice _ _ _,o2::_=>match o2.op with
  | .convert s d _=>bif Nat.beq s d then B else A
  | _=>A
 | _,_=>A
def dops2 (P:Program) (ops:Array Oper) (Q:Fm→St→Prop):List Oper→(Fm→St→Prop) × (Fm→St→Prop)
 | []=>(Q,Q)
 | o::r=>(fun f S=>dwanted ops f o (dbs o.op r (dop P f S o.type o.op fun d S'=>(dops2 P ops Q r).1 (put f o.dst d) S') (dlit P ops f S o r (dops2 P ops Q r).2)) ((dops2 P ops Q r).1 (put f o.dst undefD) S),(dops2 P ops Q r).1)
def dops (P:Program) (ops:Array Oper) (Q:Fm→St→Prop) (l:List Oper):Fm→St→Prop:=(dops2 P ops Q l).1
theorem dsnd_eq (P:Program) (ops:Array Oper) (Q:Fm→St→Prop) (l:List Oper):(dops2 P ops Q l).2=dops P ops Q l.tail:=by cases l <;> rfl
theorem dops_cons (P:Program) (ops:Array Oper) (Q:Fm→St→Prop) (o:Oper) (r:List Oper) (f:Fm) (S:St):dops P ops Q (o::r) f S=dwanted ops f o (dbs o.op r (dop P f S o.type o.op fun d S'=>dops P ops Q r (put f o.dst d) S') (dlit P ops f S o r (dops P ops Q r.tail))) (dops P ops Q r (put f o.dst undefD) S):=by
 rw [← dsnd_eq];rfl
theorem dbs_cases (op:Op) (r:List Oper):(∀ A B,dbs op r A B=A)∨(∀ A B,dbs op r A B=B):=by
 cases op with
 | buildSlice t n ps =>
  cases r with
  | nil=>exact .inl fun _ _=>rfl
  | cons o2 r2 =>
   obtain ⟨dst,op2,ty,pos,after,guard⟩:=o2
   cases op2 with
   | convert s d x =>
    cases hb:Nat.beq s d with
    | false=>exact .inl fun A B=>by simp only [dbs,hb,cond_false]
    | true=>exact .inr fun A B=>by simp only [dbs,hb,cond_true]
   | _=>exact .inl fun _ _=>rfl
 | _=>exact .inl fun _ _=>rfl
theorem dbs_or {op:Op} {r:List Oper} {A B:Prop} (h:dbs op r A B):A∨B:=by
 rcases dbs_cases op r with e | e
 ·exact .inl (by rwa [e] at h)
 ·exact .inr (by rwa [e] at h)
theorem dbs_mono {op:Op} {r:List Oper} {A B A' B':Prop} (h1:A→A') (h2:B→B') (h:dbs op r A B):dbs op r A' B':=by
 rcases dbs_cases op r with e | e
 ·rw [e] at *;exact h1 h
 ·rw [e] at *;exact h2 h
def after (S:St):Option Ob→St
 | none=>S
 | some b=>S.add b
def hop (P:Program) (f:Fm) (S:St) (u:Option Ob) (ty:TypeId) (op:Op) (K:D→Option Ob→Prop):Prop:=match op with
 | .alloc t=>u=none∧zeroOk P t=true∧K (.loc S.next 0) (some (.box t (zeroD P t)))
 | .box t x=>u=none∧(ev f x).okCell=true∧K (.loc S.next 0) (some (.box t (ev f x).cells))
 | op=>dquiet P f S ty op fun d=>K d u
def dhead (P:Program) (ops:Array Oper) (S:St) (Q:Fm→St→Prop):List Oper→Fm→Option Ob→Prop
 | [],f,u=>Q f (after S u)
 | o::r,f,u=>match o.guard with
  | none=>hop P f S u o.type o.op fun d u'=>dhead P ops S Q r (put f o.dst d) u'
  | some _=>dwanted ops f o (dquiet P f S o.type o.op fun d=>dhead P ops S Q r (put f o.dst d) u) (dhead P ops S Q r (put f o.dst undefD) u)

section
variable {P : Program} {base : Nat} {S : St} {η : Names} {w : World} {f : Fm} {a : Act}
theorem foldl_set (off:Nat):∀ (vs:List Value) (j:Nat) (cells:Array Value),off+j+vs.length≤cells.size →
  (vs.zipIdx j).foldl (fun (cs:Array Value) (p:Value × Nat)=>cs.setIfInBounds (off+p.2) p.1) cells=(cells.toList.take (off+j)++vs++cells.toList.drop (off+j+vs.length)).toArray
 | [],j,cells,_=>by simp
 | v::vs,j,cells,h=>by
  simp only [List.length_cons] at h
  simp only [List.zipIdx_cons,List.foldl_cons]
  rw [foldl_set off vs (j+1) _ (by simp;omega)]
  apply Array.ext'
  have hcl:cells.toList.length=cells.size:=Array.length_toList
  apply List.ext_getElem?
  intro i
  simp only [Array.toList_setIfInBounds,List.append_assoc,List.getElem?_append,List.getElem?_take,List.getElem?_drop,List.length_take,List.length_set,List.getElem?_set,hcl,List.length_cons,List.getElem?_cons]
  by_cases h1:i<off+j
  ·have e1:i<min (off+(j+1)) cells.size:=by omega
   have e2:i<min (off+j) cells.size:=by omega
   have e3:¬ (off+j=i):=by omega
   simp [e1,e2,e3,h1,show i<off+(j+1) by omega]
  ·by_cases h2:i=off+j
   ·subst h2
    have e1:off+j<min (off+(j+1)) cells.size:=by omega
    have e2:¬ (off+j<min (off+j) cells.size):=by omega
    have e4:off+j - min (off+j) cells.size=0:=by omega
    simp [e1,e2,e4,show off+j<off+(j+1) by omega,show off+j<cells.size by omega]
   ·have e1:¬ (i<min (off+(j+1)) cells.size):=by omega
    have e2:¬ (i<min (off+j) cells.size):=by omega
    have e3:i - min (off+j) cells.size=(i - min (off+(j+1)) cells.size)+1:=by omega
    simp only [e1,e2,if_false]
    by_cases h3:i - min (off+(j+1)) cells.size<vs.length
    ·have e5:i - min (off+j) cells.size<vs.length+1:=by omega
     have e6:i - min (off+j) cells.size ≠ 0:=by omega
     have e7:i - min (off+j) cells.size - 1=i - min (off+(j+1)) cells.size:=by omega
     simp [h3,e5,e6,e7]
    ·have e5:¬ (i - min (off+j) cells.size<vs.length+1):=by omega
     have e8:off+(j+1)+vs.length+(i - min (off+(j+1)) cells.size - vs.length)=off+j+(vs.length+1)+(i - min (off+j) cells.size - (vs.length+1)):=by omega
     have e9:¬ (off+j=off+(j+1)+vs.length+(i - min (off+(j+1)) cells.size - vs.length)):=by omega
     simp only [h3,e5,if_false]
     rw [if_neg e9,e8]
theorem splice_rep {X:Nat→Nat→Prop} {cs ds:List D} {vs us:List Value} {off:Nat} (h:RepL P w η X cs vs) (k:RepL P w η X ds us):RepL P w η X (splice cs off ds) (vs.take off++us++vs.drop (off+us.length)):=by
 unfold splice
 rw [← k.length]
 exact ((h.take off).append k).append (h.drop _)
theorem Rep.cells_ {X:Nat→Nat→Prop} {d:D} {v:Value} (h:Rep P w η X d v) (hk:d.okCell=true):RepL P w η X d.cells v.cells.toList∧(∀ x∈v.cells.toList,x.oneCell'=true)∧v.cells.size=d.width:=by
 have one:∀ (d:D) (v:Value),d.cells=[d]→v.cells=#[v]→v.oneCell'=true→Rep P w η X d v→RepL P w η X d.cells v.cells.toList∧(∀ x∈v.cells.toList,x.oneCell'=true)∧v.cells.size=d.width:=fun d v h1 h2 h3 h4=>by
  rw [D.width,h1,h2]
  refine ⟨?_,fun x hx=>by simp at hx;subst hx;exact h3,rfl⟩
  show RepL P w η X [d] [v]
  simp only [RepL]
  exact ⟨v,[],rfl,h4,rfl⟩
 cases d with
 | v x =>
  have:=h
  simp only [Rep] at this
  subst this
  cases v <;> first | exact one _ _ rfl rfl rfl h | (simp [D.okCell] at hk)
 | agg cs =>
  simp only [Rep] at h
  obtain ⟨vs,rfl,h2,h3⟩:=h
  exact ⟨h2,h3,h2.length⟩
 | tup cs=>simp [D.okCell] at hk
 | fn g fs cs =>
  have:=h
  simp only [Rep] at this
  obtain ⟨us,vs,rfl,_⟩:=this
  exact one _ _ rfl rfl rfl h
 | ifc t d =>
  have:=h
  simp only [Rep] at this
  obtain ⟨x,rfl,_⟩:=this
  exact one _ _ rfl rfl rfl h
 | win k off n c =>
  obtain ⟨A,rfl,_⟩:=Rep.win_slice h
  exact one _ _ rfl rfl rfl h
 | loc k off =>
  have:=h
  simp only [Rep] at this
  obtain ⟨b,_,rfl⟩:=this
  exact one _ _ rfl rfl rfl h
 | rd cs off =>
  have:=h
  simp only [Rep] at this
  obtain ⟨b,o,rfl,_⟩:=this
  exact one _ _ rfl rfl rfl h
 | sl own es =>
  have:=h
  simp only [Rep] at this
  obtain ⟨A,c,rfl,_⟩:=this
  exact one _ _ rfl rfl rfl h
theorem fill_sound {X:Nat→Nat→Prop} (pl:Nat→Option (Nat × Nat)):∀ (ps:List (Nat × D)) (qs:List (Nat × Value)) (cs:List D) (vs:List Value),ps.map (·.1)=qs.map (·.1)→RepL P w η X (ps.map (·.2)) (qs.map (·.2))→RepL P w η X cs vs→(∀ x∈vs,x.oneCell'=true)→(fillD pl cs ps).1 →
  ∃ us:List Value,Instr.fill pl vs.toArray qs=some us.toArray∧RepL P w η X (fillD pl cs ps).2 us∧(∀ x∈us,x.oneCell'=true)
 | [],qs,cs,vs,h1,h2,h3,h4,_=>by
  have:qs=[]:=by cases qs <;> simp_all
  subst this
  exact ⟨vs,rfl,h3,h4⟩
 | (i,d)::ps,qs,cs,vs,h1,h2,h3,h4,h5=>by
  obtain ⟨⟨j,v⟩,qs,rfl⟩:∃ q qs',qs=q::qs':=by
   cases qs with
   | nil=>simp at h1
   | cons q qs=>exact ⟨q,qs,rfl⟩
  simp only [List.map_cons,List.cons.injEq] at h1 h2
  obtain ⟨rfl,h1⟩:=h1
  simp only [RepL] at h2
  obtain ⟨x,xs,hx,h6,h7⟩:=h2
  injection hx with hx1 hx2
  subst hx1 hx2
  unfold fillD at h5 ⊢
  cases hp:pl i with
  | none=>rw [hp] at h5;exact absurd h5 id
  | some q =>
   obtain ⟨off,n⟩:=q
   rw [hp] at h5
   obtain ⟨k1,k2,k3,k4⟩:=h5
   obtain ⟨e1,e2,e3⟩:=h6.cells_ k1
   have hl:=h3.length
   have hvl:v.cells.toList.length=v.cells.size:=Array.length_toList
   have hset:=foldl_set off v.cells.toList 0 vs.toArray (by simp only [List.size_toArray];omega)
   simp only [Nat.add_zero] at hset
   obtain ⟨us,g1,g2,g3⟩:=fill_sound pl ps qs (splice cs off d.cells) (vs.take off++v.cells.toList++vs.drop (off+v.cells.toList.length)) h1 h7 (splice_rep h3 e1) (fun x hx=>by
    rcases List.mem_append.1 hx with hx | hx
    ·rcases List.mem_append.1 hx with hx | hx
     ·exact h4 x (List.mem_of_mem_take hx)
     ·exact e2 x hx
    ·exact h4 x (List.mem_of_mem_drop hx)) k4
   refine ⟨us,?_,g2,g3⟩
   unfold Instr.fill
   simp only [hp]
   rw [if_neg (by simp only [List.size_toArray,Bool.or_eq_true,decide_eq_true_eq];omega)]
   have hz:v.cells.zipIdx.foldl (fun (cs:Array Value) (p:Value × Nat)=>cs.setIfInBounds (off+p.2) p.1) vs.toArray=(vs.take off++v.cells.toList++vs.drop (off+v.cells.toList.length)).toArray:=by
    rw [← Array.foldl_toList,Array.toList_zipIdx]
    exact hset
   rw [hz]
   exact g1
theorem zeroD_rep {X:Nat→Nat→Prop}:∀ (l:List Value),RepL P w η X (l.map ofV) l
 | []=>by simp [RepL]
 | x::l=>by simp only [List.map_cons,RepL];exact ⟨x,l,rfl,Rep.ofV x,zeroD_rep l⟩
theorem zeroOk_spec {t:TypeId} (h:zeroOk P t=true):∃ z i,P.info? t=some i∧i.zero=some z∧zeroD P t=z.cells.toList.map ofV∧(∀ x∈z.cells.toList,x.oneCell'=true)∧z.cells.size=i.size:=by
 simp only [zeroOk,Bool.and_eq_true] at h
 obtain ⟨_,h⟩:=h
 split at h
 ·rename_i i hi
  split at h
  ·rename_i z hz
   simp only [Bool.and_eq_true,beq_iff_eq] at h
   refine ⟨z,i,hi,hz,?_,?_,h.2⟩
   ·unfold zeroD
    rw [hi]
    simp only [Option.bind_some,hz]
   ·intro x hx
    exact Array.all_eq_true_iff_forall_mem.1 h.1 x (by simpa using hx)
  ·cases h
 ·cases h
def Names.cut (η:Names) (n:Nat):Names:=fun k=>if k<n then η k else none
theorem goes_fin (hM:Mem P base S η w) {S1 S2:St} {η1:Names} {w1:World} (G:Goes P base S η w S1 η1 w1) (hn:S2.next≤S1.next) (hn0:S.next≤S2.next)
  (hs:∀ k o,S2.ob k=some o→S1.ob k=some o∧k<S2.next∧∀ t cs,o=.box t cs→S.ob k=some o∨allL (·<S2.next) cs) :
  Goes P base S η w S2 (η1.cut S2.next) w1∧∀ d v,d.all (·<S2.next)→Rep P w1 η1 (Fix P S1 η1) d v→Rep P w1 (η1.cut S2.next) (Fix P S2 (η1.cut S2.next)) d v:=by
 have cut:∀ k b,(η1.cut S2.next) k=some b→k<S2.next∧η1 k=some b:=fun k b hk=>by
  simp only [Names.cut] at hk
  by_cases e:k<S2.next
  ·rw [if_pos e] at hk;exact ⟨e,hk⟩
  ·rw [if_neg e] at hk;cases hk
 have cut':∀ k,k<S2.next→(η1.cut S2.next) k=η1 k:=fun k hk=>by simp only [Names.cut];rw [if_pos hk]
 have K:Keep (·<S2.next) w1 η1 (Fix P S1 η1) w1 (η1.cut S2.next) (Fix P S2 (η1.cut S2.next)) :=
  ⟨Nat.le_refl _,fun b i _ hx=>⟨fun k o hk hk'=>hx k o (cut k _ hk).2 (hs k o hk').1,rfl⟩,fun k b hk hb=>by rw [cut' k hk];exact hb,fun _ c _ hx=>⟨c,hx,rfl⟩⟩
 have lt0:∀ k,(η k).isSome=true→k<S2.next:=fun k hk=>by
  rcases Nat.lt_or_ge k S.next with h | h
  ·omega
  ·rw [hM.dead k h] at hk;cases hk
 have nm:∀ k t cs,S2.ob k=some (.box t cs)→allL (·<S2.next) cs:=fun k t cs hk=>by
  rcases (hs k _ hk).2.2 t cs rfl with h | h
  ·obtain ⟨b,hb⟩:=hM.live k t cs h
   obtain ⟨vs,_,k2,_⟩:=hM.box k t cs b h hb
   exact allL_mono lt0 (RepL.names k2)
  ·exact h
 have sm:∀ k,(S2.ob k).isSome=true→(S1.ob k).isSome=true:=fun k hk=>by
  obtain ⟨o,ho⟩:=Option.isSome_iff_exists.1 hk
  rw [(hs k o ho).1];rfl
 refine ⟨⟨⟨G.mem.base_,fun k hk=>by simp only [Names.cut];rw [if_neg (by omega)],fun k hk=>?_,fun k t cs hk=>?_,fun k k' b h1 h2 h3 h4=>G.mem.inj k k' b (cut k _ h1).2 (cut k' _ h2).2 (sm k h3) (sm k' h4),fun k b hk=>G.mem.in_ k b (cut k _ hk).2,fun k t cs b h1 h2=>?_,fun k e n b h1 h2=>G.mem.row k e n b (hs k _ h1).1 (cut k _ h2).2,G.mem.glob,fun k b l hk=>⟨by rw [cut' k (hs k _ hk).2.1];exact (G.mem.mp k b l (hs k _ hk).1).1,(G.mem.mp k b l (hs k _ hk).1).2⟩⟩,
  ⟨G.keep.size,fun b i hb hx=>?_,fun k b _ hk=>?_,G.keep.shp⟩,G.below,G.drawn,G.loops⟩,fun d v hd hr=>Rep.keep K hd hr⟩
 ·cases ho:S2.ob k with
  | none=>rfl
  | some o=>have:=(hs k o ho).2.1;omega
 ·obtain ⟨b,hb⟩:=G.mem.live k t cs (hs k _ hk).1
  exact ⟨b,by rw [cut' k (hs k _ hk).2.1];exact hb⟩
 ·obtain ⟨vs,k1,k2,k3⟩:=G.mem.box k t cs b (hs k _ h1).1 (cut k _ h2).2
  exact ⟨vs,k1,RepL.keep K (nm k t cs h1) k2,k3⟩
 ·have h1:=G.keep.fix b i hb hx
  exact ⟨fun k o hk hk'=>h1.1 k o (cut k _ hk).2 (hs k o hk').1,h1.2⟩
 ·have h1:=G.keep.eta k b trivial hk
  rw [cut' k (lt0 k (by rw [hk];rfl))]
  exact h1
theorem goes_back (hM:Mem P base S η w) {S1:St} {η1:Names} {w1:World} (G:Goes P base S η w S1 η1 w1) (hn:S.next≤S1.next) (hs:∀ k o,S.ob k=some o→S1.ob k=some o) :
  Goes P base S η w S (η1.cut S.next) w1∧∀ d v,d.all (·<S.next)→Rep P w1 η1 (Fix P S1 η1) d v→Rep P w1 (η1.cut S.next) (Fix P S (η1.cut S.next)) d v :=
 goes_fin hM G hn (Nat.le_refl _) fun k o ho=>⟨hs k o ho,(by
  rcases Nat.lt_or_ge k S.next with h | h
  ·exact h
  ·rw [hM.fresh k h] at ho;cases ho),fun _ _ _=>.inl ho⟩

theorem run_alloc_new (elem:TypeId) {i:TypeInfo} {z:Value} (hi:P.info? elem=some i) (hz:i.zero=some z):(Instr.alloc elem true (.tuple #[])).run P w=.ok (.pointer (some ⟨w.heap.size,0,none⟩)) (w.alloc (.cells z.cells elem)):=by
 simp [Instr.alloc,zeroValue,typeInfo,hi,hz,newVar,newRow]
theorem run_box_new (elem:TypeId) (v:Value):(Instr.box elem v).run P w=.ok (.pointer (some ⟨w.heap.size,0,none⟩)) (w.alloc (.cells v.cells elem)):=by
 simp [Instr.box,newVar,newRow]
theorem run_store_box {t t':TypeId} {b off:Nat} {v:Value} {vs:List Value} (hb:w.heap[b]? = some (.cells vs.toArray t' (0,0))) {i:TypeInfo} (hi:P.info? t=some i) (hs:v.cells.size=i.size) (h1:∀ x∈v.cells.toList,x.oneCell'=true) (hl:off+i.size≤vs.length) :
  (Instr.storeAt t (.pointer (some ⟨b,off,none⟩)) v).run P w=.ok () (w.setRow b (vs.take off++v.cells.toList++vs.drop (off+v.cells.toList.length)).toArray):=by
 have hvl:v.cells.toList.length=v.cells.size:=Array.length_toList
 have:=run_storeCells_at P b off t' v.cells.toList 0 vs.toArray w hb (by simp only [List.size_toArray];omega) h1
 simp only [Nat.add_zero] at this
 simp [Instr.storeAt,Instr.sureAddr,storeVar,sizeOf,typeInfo,hi,hs,this]
theorem fill_seq {n:Nat} (qs:List (Nat × Value)):∀ (k:Nat) (done rest:List Value),qs.map (·.1)=List.range' k qs.length→done.length=k * n→rest.length=qs.length * n→(∀ q∈qs,q.2.cells.size=n) →
  Instr.fill (fun i=>some (i * n,n)) (done++rest).toArray qs=some (done++qs.flatMap fun q=>q.2.cells.toList).toArray:=by
 induction qs with
 | nil=>intro k done rest _ h2 h3 _;have:rest=[]:=List.eq_nil_of_length_eq_zero (by simpa using h3);subst this;simp [Instr.fill]
 | cons q qs ih =>
  intro k done rest h1 h2 h3 h4
  obtain ⟨j,v⟩:=q
  simp only [List.map_cons,List.length_cons,List.range'_succ,List.cons.injEq] at h1
  obtain ⟨rfl,h1⟩:=h1
  have hv:v.cells.size=n:=h4 (j,v) (by simp)
  have hvl:v.cells.toList.length=v.cells.size:=Array.length_toList
  have hrl:rest.length=n+qs.length * n:=by rw [h3,List.length_cons,Nat.add_mul];omega
  unfold Instr.fill
  simp only
  have hset:=foldl_set (j * n) v.cells.toList 0 (done++rest).toArray (by simp only [List.size_toArray,List.length_append];omega)
  have hz:v.cells.zipIdx.foldl (fun (cs:Array Value) (p:Value × Nat)=>cs.setIfInBounds (j * n+p.2) p.1) (done++rest).toArray=((done++v.cells.toList)++rest.drop n).toArray:=by
   rw [← Array.foldl_toList,Array.toList_zipIdx,hset]
   simp only [Nat.add_zero]
   rw [show (done++rest).take (j * n)=done by rw [← h2];exact List.take_left,List.drop_append,List.drop_eq_nil_of_le (by omega),List.nil_append]
   congr 2
   congr 1
   omega
  rw [if_neg (by simp only [List.size_toArray,List.length_append,Bool.or_eq_true,decide_eq_true_eq];omega),hz]
  rw [ih (j+1) (done++v.cells.toList) (rest.drop n) h1 (by rw [List.length_append,Nat.add_mul];omega) (by rw [List.length_drop];omega) (fun q hq=>h4 q (by simp [hq]))]
  simp
theorem run_sizeAt (f:Field) (h:(P.info? f.type).isSome=true):(do pure (f.offset,← sizeOf f.type):Sem (Nat × Nat)).run P w=.ok (f.offset,szOf P f.type) w:=by
 obtain ⟨ti,hti⟩:=Option.isSome_iff_exists.1 h
 simp [sizeOf,typeInfo,hti,szOf]
theorem run_places:∀ l:List Field,(∀ f∈l,(P.info? f.type).isSome=true)→(l.mapM (m:=Sem) fun f=>do pure (f.offset,← sizeOf f.type)).run P w=.ok (l.map fun f=>(f.offset,szOf P f.type)) w
 | [],_=>rfl
 | f::l,hl=>by
  have h1:=run_sizeAt (P:=P) (w:=w) f (hl f (by simp))
  have h2:=run_places l fun g hg=>hl g (by simp [hg])
  rw [List.mapM_cons,Sem.run_bind,h1,Result.andThen_ok,Sem.run_bind,h2,Result.andThen_ok]
  rfl
theorem run_build_at {t:TypeId} {pl:Nat→Option (Nat × Nat)} (h:placeT P t=some pl) {z:Value} {i:TypeInfo} (hi:P.info? t=some i) (hz:i.zero=some z) (qs:Array (Nat × Value)) {us:List Value} (hf:Instr.fill pl z.cells qs.toList=some us.toArray) :
  (Instr.build t qs).run P w=.ok (.agg us.toArray) w:=by
 unfold placeT at h
 split at h
 ·rename_i fs hu
  cases hb:fs.all fun f=>(P.info? f.type).isSome with
  | false=>rw [hb] at h;cases h
  | true =>
   rw [hb] at h
   injection h with h
   subst h
   have hm:(fs.mapM (m:=Sem) fun f=>do pure (f.offset,← sizeOf f.type)).run P w=.ok (fs.map fun f=>(f.offset,szOf P f.type)) w:=by
    have hl:=run_places (P:=P) (w:=w) fs.toList fun f hf=>Array.all_eq_true_iff_forall_mem.1 hb f (by simpa using hf)
    rw [Array.mapM_eq_mapM_toList,map_eq_pure_bind,Sem.run_bind,hl,Result.andThen_ok]
    show Result.ok _ w=_
    congr 1
    apply Array.ext'
    simp
   have hg:(fun i:Nat=>(fs.map fun f:Field=>(f.offset,szOf P f.type))[i]?)=fun i=>(fs[i]?).map fun f:Field=>(f.offset,szOf P f.type):=by
    funext i
    simp
   unfold Instr.build
   have hz':(zeroValue t).run P w=.ok z w:=by simp [zeroValue,typeInfo,hi,hz]
   rw [Sem.run_bind,hz',Result.andThen_ok,Sem.run_bind,run_underlying hu,Result.andThen_ok]
   simp only
   rw [Sem.run_bind,hm,Result.andThen_ok]
   rw [hg,hf]
   rfl
 ·rename_i n e hu
  cases hb:(P.info? e).isSome with
  | false=>rw [hb] at h;cases h
  | true =>
   rw [hb] at h
   injection h with h
   subst h
   obtain ⟨ti,hti⟩:=Option.isSome_iff_exists.1 hb
   have hz':(zeroValue t).run P w=.ok z w:=by simp [zeroValue,typeInfo,hi,hz]
   have hs:(sizeOf e).run P w=.ok (szOf P e) w:=by simp [sizeOf,typeInfo,hti,szOf]
   unfold Instr.build
   rw [Sem.run_bind,hz',Result.andThen_ok,Sem.run_bind,run_underlying hu,Result.andThen_ok]
   simp only
   rw [Sem.run_bind,hs,Result.andThen_ok,hf]
   rfl
 ·cases h
theorem run_buildSlice_at {t e:TypeId} (he:elT P t=some e) (hz:zeroT P e=true) (n:Nat) (qs:Array (Nat × Value)) (h1:qs.toList.map (·.1)=List.range n) (h2:∀ q∈qs.toList,q.2.cells.size=szOf P e) (h3:n * szOf P e≤16777216) :
  (Instr.buildSlice t n qs).run P w=.ok (.slice (some ⟨w.heap.size,0,none⟩) n n) (w.alloc (.cells (qs.toList.flatMap fun q=>q.2.cells.toList).toArray e)):=by
 obtain ⟨i,z,hi,hzr,hzs,hpos,hsz,_⟩:=zeroT_spec hz
 have hu:=elT_spec he
 have hs:(sizeOf e).run P w=.ok (szOf P e) w:=by simp [sizeOf,typeInfo,hi,szOf]
 have hz':(zeroValue e).run P w=.ok z w:=by simp [zeroValue,typeInfo,hi,hzr]
 have hlen:qs.toList.length=n:=by have:=congrArg List.length h1;simpa using this
 have key:∀ zs:Array Value,zs.size=n * szOf P e→Instr.fill (fun i=>some (i * szOf P e,szOf P e)) zs qs.toList=some (qs.toList.flatMap fun q=>q.2.cells.toList).toArray:=fun zs hzs'=>by
  have:=fill_seq (n:=szOf P e) qs.toList 0 [] zs.toList (by rw [h1,hlen,List.range_eq_range']) (by simp) (by rw [hlen];simpa using hzs') h2
  simpa using this
 unfold Instr.buildSlice
 rw [Sem.run_bind,run_underlying hu,Result.andThen_ok]
 simp only
 rw [Sem.run_bind,hs,Result.andThen_ok,if_neg (by omega)]
 by_cases h0:n * szOf P e=0
 ·rw [if_pos h0]
  simp only [Sem.run_bind,Sem.run_pure,Result.andThen_ok]
  rw [key _ (by simp)]
  simp [newRow]
 ·rw [if_neg h0]
  simp only [Sem.run_bind,hz',Sem.run_pure,Result.andThen_ok]
  rw [key _ (by simp)]
  simp [newRow]
theorem parts_rep (hf:RepF P w η (Fix P S η) f a):∀ (l:List (Nat × Operand)),(∀ p∈l,opnOk a.tmps.size p.2=true)→RepL P w η (Fix P S η) (l.map fun p=>ev f p.2) (l.map fun p=>a.eval p.2)
 | [],_=>by simp [RepL]
 | p::l,h=>by
  simp only [List.map_cons,RepL]
  exact ⟨_,_,rfl,hf.ev (h p (by simp)),parts_rep hf l fun q hq=>h q (by simp [hq])⟩
theorem RepL.flat_ {X:Nat→Nat→Prop}:∀ {es:List D} {vs:List Value},RepL P w η X es vs→(∀ d∈es,d.okCell=true)→RepL P w η X (flat es) (vs.flatMap fun v=>v.cells.toList)∧∀ x∈vs.flatMap (fun v=>v.cells.toList),x.oneCell'=true
 | [],vs,h,_=>by simp only [RepL] at h;subst h;exact ⟨by simp [flat,RepL],fun x hx=>by simp at hx⟩
 | d::es,vs,h,hk=>by
  simp only [RepL] at h
  obtain ⟨x,xs,rfl,h2,h3⟩:=h
  obtain ⟨k1,k2⟩:=RepL.flat_ h3 fun d' hd=>hk d' (by simp [hd])
  obtain ⟨g1,g2,_⟩:=h2.cells_ (hk d (by simp))
  simp only [flat,List.flatMap_cons] at *
  exact ⟨g1.append k1,fun y hy=>(List.mem_append.1 hy).elim (g2 y) (k2 y)⟩
theorem rep_new_row (hM:Mem P base S η w) {es:List D} {vs:List Value} {e:TypeId} (hr:RepL P w η (Fix P S η) es vs) (hk:∀ d∈es,d.okCell=true∧d.width=szOf P e) (hpos:0<szOf P e) (hl:es.length≤140737488355328) :
  Rep P (w.alloc (.cells (vs.flatMap fun v=>v.cells.toList).toArray e)) η (Fix P S η) (.sl .full es) (.slice (some ⟨w.heap.size,0,none⟩) es.length es.length):=by
 have G:=goes_new hM (.cells (vs.flatMap fun v=>v.cells.toList).toArray e)
 obtain ⟨k1,k2⟩:=RepL.flat_ hr fun d hd=>(hk d hd).1
 simp only [Rep]
 refine ⟨_,es.length,rfl,Nat.le_refl _,hl,rfl,fun _=>⟨w.heap.size,0,szOf P e,rfl,hpos,?_⟩⟩
 refine RepE.of_flat (fun d hd=>(hk d hd).2) (RepC.mk (G.repL k1) (fun j u hj=>?_) (fun j _ k o hk' _=>?_) k2)
 ·rw [Nat.zero_add,cell_of_row _ w.heap.size j _ e (0,0) (heap_alloc_new w _)]
  simpa using hj
 ·have:=(hM.in_ k _ hk').2
  omega
theorem append_op (hM:Mem P base S η w) (hf:RepF P w η (Fix P S η) f a) {args:Array Operand} (hop:∀ x∈args.toList,opnOk a.tmps.size x=true) {ts:Array TypeId} {ty:TypeId} {cs:Array Bool} {own own2:Own} {es es2:List D} {t tx e:TypeId}
  (h1:args.toList.map (ev f)=[.sl own es,.sl own2 es2]) (h2:ts.toList=[t,tx]) (ht:elT P t=some e) (htx:(elT P tx).isSome=true) (hz:zeroT P e=true) (hw1:∀ d∈es,d.width=szOf P e) (hw2:∀ d∈es2,d.width=szOf P e)
  (hown:own=.full∨∃ g,own=.row g∧S.ob g=some (.row e es.length)) (hlen:es.length+es2.length≤140737488355328) (hby:(es.length+es2.length) * bytesOf P e≤140737488355328) :
  ∃ v' η' w',(builtin .append ts ty cs (args.map a.eval)).run P w=.ok (.value v') w'∧Goes P base S η w (S.grow own e (es.length+es2.length)) η' w'∧Rep P w' η' (Fix P (S.grow own e (es.length+es2.length)) η') (.sl (.row S.next) (es++es2)) v':=by
 have hr:=repL_map hf hop
 rw [h1] at hr
 simp only [RepL] at hr
 obtain ⟨v,vs,e1,r1,x,xs,e2,r2,e3⟩:=hr
 subst e3
 subst e2
 have hargs:args.map a.eval=#[v,x]:=by apply Array.ext';simpa using e1
 have hts:ts=#[t,tx]:=by apply Array.ext';simpa using h2
 obtain ⟨v',η',w',k1,k2,k3⟩:=append_step (ty:=ty) hM r1 r2 ht htx hz hw1 hw2 hown hlen hby
 refine ⟨v',η',w',?_,k2,k3⟩
 rw [hargs,hts]
 unfold builtin
 simp only
 rw [Sem.run_bind,k1]
 rfl
theorem zeroCells_mem {z:Array Value} {n:Nat} {x:Value} (h:x∈(Builtin.zeroCells z n).toList):x∈z.toList:=by
 unfold Builtin.zeroCells at h
 rw [Array.toList_map,List.mem_map] at h
 obtain ⟨i,hi,rfl⟩:=h
 have hi':i<n * z.size:=by simpa using hi
 have hz:0<z.size:=by
  rcases Nat.eq_zero_or_pos z.size with h | h
  ·rw [h] at hi';simp at hi'
  ·exact h
 have hlt:=Nat.mod_lt i hz
 rw [getElem!_pos z (i % z.size) hlt]
 simp
theorem append_win (hM:Mem P base S η w) {own2:Own} {es2:List D} {v x:Value} {t tx ty e:TypeId} (hv:Rep P w η (Fix P S η) (.sl .full []) v) (hx:Rep P w η (Fix P S η) (.sl own2 es2) x)
  (ht:elT P t=some e) (htx:(elT P tx).isSome=true) (hz:zeroT P e=true) (hz2:zeroOk P e=true) (hw2:∀ d∈es2,d.width=szOf P e) (hpos2:0<es2.length) (hlen:es2.length≤140737488355328) (hby:es2.length * bytesOf P e≤140737488355328) :
  ∃ c zs v' η' w',es2.length≤c∧(flat es2++zs).length=c * szOf P e∧(Builtin.append_ #[t,tx] ty #[v,x]).run P w=.ok v' w'∧Goes P base S η w (S.add (.box e (flat es2++zs))) η' w'∧Rep P w' η' (Fix P (S.add (.box e (flat es2++zs))) η') (.win S.next 0 es2.length c) v':=by
 obtain ⟨i,z,hi,hzr,hzs,hpos,hsz,hbz⟩:=zeroT_spec hz
 obtain ⟨z2,i2,hi2,hz2r,_,hz1,_⟩:=zeroOk_spec hz2
 rw [hi] at hi2
 injection hi2 with hi2
 subst hi2
 rw [hzr] at hz2r
 injection hz2r with hz2r
 subst hz2r
 have hu:=elT_spec ht
 have hpos':0<szOf P e:=by omega
 obtain ⟨news,hs,hr,h1,A2,c2,hx2,_,_,_⟩:=rep_src (tx:=tx) hpos' hx htx hw2
 obtain ⟨olds,hso,hro,h1o,A,c,rfl,hc,ho,hA⟩:=rep_src (tx:=t) hpos' hv (by rw [ht];rfl) (fun d hd=>by cases hd)
 have hlo:=hso.newsLen
 have hln:=hs.newsLen
 rw [hsz] at hs hso hlo hln
 have hc0:c=0:=ho
 have ho0:olds=[]:=List.eq_nil_of_length_eq_zero (by rw [hlo];simp)
 subst ho0
 have hgrow:c<([]:List D).length+es2.length:=by simp only [List.length_nil];omega
 have hcold:=hso.cellsD
 have hrun:=run_append_grow_src (P:=P) w t tx ty e i z hu hi hzr A ([]:List D).length c [] hcold x es2.length news hs hgrow (by simp only [List.length_nil];omega) (growslice_fits hgrow (by rw [← hbz];simpa using hby))
 have G1:=goes_drew hM
 have hge:=grownCap_ge w (([]:List D).length+es2.length) c e
 have G3:=G1.trans (goes_name G1.mem (.box e (flat es2++(Builtin.zeroCells z.cells (grownCap w (([]:List D).length+es2.length) c e - (([]:List D).length+es2.length))).toList.map ofV)) (([]++news).toArray++Builtin.zeroCells z.cells (grownCap w (([]:List D).length+es2.length) c e - (([]:List D).length+es2.length))) e
  (.inl ⟨_,news++(Builtin.zeroCells z.cells (grownCap w (([]:List D).length+es2.length) c e - (([]:List D).length+es2.length))).toList,rfl,by apply Array.ext';simp,RepL.append (G1.repL hr) (zeroD_rep _),fun u hu'=>(List.mem_append.1 hu').elim (h1 u) fun hh=>hz1 u (zeroCells_mem hh)⟩))
 have hge':es2.length≤grownCap w (([]:List D).length+es2.length) c e:=by simpa using hge
 refine ⟨_,_,_,_,_,hge',?_,hrun,G3,?_⟩
 ·have e1:=size_zeroCells z.cells (grownCap w (([]:List D).length+es2.length) c e - (([]:List D).length+es2.length))
  rw [← Array.length_toList] at e1
  rw [List.length_append,List.length_map,dflat_length hw2,e1,hzs,hsz,← Nat.add_mul]
  congr 1
  simp only [List.length_nil,Nat.zero_add] at hge' ⊢
  omega
 simp only [Rep]
 exact .inl ⟨w.heap.size,by simp only [Names.add,↓reduceIte];rfl,by simp only [List.length_nil,Nat.zero_add],hge',hlen⟩
theorem append_win_op (hM:Mem P base S η w) (hf:RepF P w η (Fix P S η) f a) {args:Array Operand} (hop:∀ x∈args.toList,opnOk a.tmps.size x=true) {ts:Array TypeId} {ty:TypeId} {cs:Array Bool} {own2:Own} {es2:List D} {t tx e:TypeId}
  (h1:args.toList.map (ev f)=[.sl .full [],.sl own2 es2]) (h2:ts.toList=[t,tx]) (ht:elT P t=some e) (htx:(elT P tx).isSome=true) (hz:zeroT P e=true) (hz2:zeroOk P e=true) (hw2:∀ d∈es2,d.width=szOf P e)
  (hpos2:0<es2.length) (hlen:es2.length≤140737488355328) (hby:es2.length * bytesOf P e≤140737488355328) :
  ∃ c zs v' η' w',es2.length≤c∧(flat es2++zs).length=c * szOf P e∧(builtin .append ts ty cs (args.map a.eval)).run P w=.ok (.value v') w'∧Goes P base S η w (S.add (.box e (flat es2++zs))) η' w'∧Rep P w' η' (Fix P (S.add (.box e (flat es2++zs))) η') (.win S.next 0 es2.length c) v':=by
 have hr:=repL_map hf hop
 rw [h1] at hr
 simp only [RepL] at hr
 obtain ⟨v,vs,e1,r1,x,xs,e2,r2,e3⟩:=hr
 subst e3
 subst e2
 have hargs:args.map a.eval=#[v,x]:=by apply Array.ext';simpa using e1
 have hts:ts=#[t,tx]:=by apply Array.ext';simpa using h2
 obtain ⟨c,zs,v',η',w',j1,j2,k1,k2,k3⟩:=append_win (ty:=ty) hM r1 r2 ht htx hz hz2 hw2 hpos2 hlen hby
 refine ⟨c,zs,v',η',w',j1,j2,?_,k2,k3⟩
 rw [hargs,hts]
 unfold builtin
 simp only
 rw [Sem.run_bind,k1]
 rfl
theorem Rep.own_no {X:Nat→Nat→Prop} {o:Own} {es:List D} {v:Value} (h:Rep P w η X (.sl o es) v):Rep P w η X (.sl .no es) v:=by
 simp only [Rep] at *
 obtain ⟨A,c,h1,h2,h3,_,h5⟩:=h
 exact ⟨A,c,h1,h2,h3,trivial,h5⟩
theorem Mem.lt (hM:Mem P base S η w) {k:Nat} (h:(η k).isSome=true):k<S.next:=by
 rcases Nat.lt_or_ge k S.next with h' | h'
 ·exact h'
 ·rw [hM.dead k h'] at h;cases h
theorem dnew_sound (hM:Mem P base S η w) (hf:RepF P w η (Fix P S η) f a) {o:Oper} (hop0:opsOk a.tmps.size o.op=true) {c:Prop} {d:D} (h:dnew P f S o.op=some (c,d)) (hc:c) :
  ∃ v w' η',(execOp a.eval o).run P w=.ok (.value v) w'∧Goes P base S η w S η' w'∧Rep P w' η' (Fix P S η') d v:=by
 have hop:=opsOk_spec hop0
 clear hop0
 obtain ⟨dst,op,ty,pos,after,guard⟩:=o
 unfold dnew at h
 simp only at h hop
 split at h
 ·
  rename_i t n ps
  split at h
  ·rename_i e he
   injection h with h;injection h with hp hd;subst hp hd
   obtain ⟨k1,k2,k3,k4⟩:=hc
   obtain ⟨i,z,hi,hzr,hzs,hpos,hsz,_⟩:=zeroT_spec k1
   have hr:=parts_rep hf ps.toList fun p hp=>hop p.2 (by simp only [Op.operands];simp;exact ⟨p.1,by simpa using hp⟩)
   have hlen:ps.toList.length=n:=by have:=congrArg List.length k2;simpa using this
   have hl:(ps.toList.map fun p=>ev f p.2).length=n:=by rw [List.length_map,hlen]
   have hnb:n≤140737488355328:=by
    have h1:n * 1≤n * szOf P e:=Nat.mul_le_mul_left _ (by omega)
    omega
   have hg:=rep_new_row hM hr k4 (by omega) (by rw [hl];exact hnb)
   have hfl:((ps.map fun (i,x)=>(i,a.eval x)).toList.flatMap fun q=>q.2.cells.toList)=(ps.toList.map fun p=>a.eval p.2).flatMap fun v=>v.cells.toList:=by
    simp [List.flatMap_map]
   have hrun:=run_buildSlice_at (w:=w) he k1 n (ps.map fun (i,x)=>(i,a.eval x)) (by simpa [Function.comp_def] using k2) (fun q hq=>by
    simp only [Array.toList_map,List.mem_map] at hq
    obtain ⟨p,hp,rfl⟩:=hq
    have hm:ev f p.2∈ps.toList.map fun p=>ev f p.2:=List.mem_map.2 ⟨p,hp,rfl⟩
    have:=(hf.ev (hop p.2 (by simp only [Op.operands];simp;exact ⟨p.1,by simpa using hp⟩))).cells_ (k4 _ hm).1
    rw [this.2.2]
    exact (k4 _ hm).2) k3
   rw [hfl] at hrun
   refine ⟨_,_,η,?_,goes_new hM _,by rw [hl] at hg;exact hg⟩
   unfold execOp
   simp only
   rw [Sem.run_bind,hrun]
   rfl
  ·cases h
 ·
  rename_i t ps
  split at h
  ·rename_i pl hpl
   injection h with h;injection h with hp hd;subst hp hd
   obtain ⟨k1,k2⟩:=hc
   obtain ⟨z,i,hi,hz,hzd,hz1,hzs⟩:=zeroOk_spec k1
   have hr:=parts_rep hf ps.toList fun p hp=>hop p.2 (by simp only [Op.operands];simp;exact ⟨p.1,by simpa using hp⟩)
   rw [hzd] at k2 ⊢
   obtain ⟨us,g1,g2,g3⟩:=fill_sound (P:=P) (w:=w) (η:=η) (X:=Fix P S η) pl (ps.toList.map fun p=>(p.1,ev f p.2)) (ps.toList.map fun p=>(p.1,a.eval p.2)) (z.cells.toList.map ofV) z.cells.toList (by simp) (by rw [List.map_map,List.map_map];exact hr) (zeroD_rep _) hz1 k2
   have hq:(ps.map fun (i,x)=>(i,a.eval x)).toList=ps.toList.map fun p=>(p.1,a.eval p.2):=by simp
   have hrun:=run_build_at (w:=w) hpl hi hz (ps.map fun (i,x)=>(i,a.eval x)) (us:=us) (by rw [hq];simpa using g1)
   refine ⟨.agg us.toArray,w,η,?_,Goes.refl hM,by simp only [Rep];exact ⟨us,rfl,g2,g3⟩⟩
   unfold execOp
   simp only
   rw [Sem.run_bind,hrun]
   rfl
  ·cases h
 ·
  rename_i args ts
  split at h
  ·rename_i es own2 es2 t tx h1 h2
   split at h
   ·rename_i e he
    injection h with h;injection h with hp hd;subst hp hd
    obtain ⟨k1,k2,k3,k4,k5,k6⟩:=hc
    obtain ⟨v',η',w',g1,g2,g3⟩:=append_op (ty:=ty) (cs:=args.map isConstB) hM hf (fun x hx=>hop x (by simp only [Op.operands,Call.operands,Array.mem_append];exact .inr (by simpa using hx))) h1 h2 he k1 k2 k3 k4 (.inl rfl) k5 k6
    have G2:=g2.trans (goes_drop g2.mem S.next)
    have hb:=goes_back hM G2 (Nat.le_succ _) (fun k o ho=>by
     have:k ≠ S.next:=fun e=>by subst e;rw [hM.fresh _ (Nat.le_refl _)] at ho;cases ho
     simp [St.drop,St.grow,St.leave,St.add,this,ho])
    have ha:=repL_map hf (l:=args.toList) (fun x hx=>hop x (by simp only [Op.operands,Call.operands,Array.mem_append];exact .inr (by simpa using hx)))
    have hn:=allL_mono (fun k hk=>hM.lt hk) (RepL.names ha)
    rw [h1] at hn
    simp only [allL,D.all] at hn
    refine ⟨v',w',_,?_,hb.1,hb.2 _ _ ?_ ((goes_drop g2.mem S.next).rep g3).own_no⟩
    ·rw [run_builtin_op];exact g1
    ·simp only [D.all]
     exact ⟨trivial,allL_iff.2 fun d hd=>(List.mem_append.1 hd).elim (allL_iff.1 hn.1.2 d) (allL_iff.1 hn.2.1.2 d)⟩
   ·cases h
  ·cases h
 ·
  rename_i s t x
  split at h
  ·rename_i str hx
   split at h
   ·rename_i e he
    injection h with h;injection h with hp hd;subst hp hd
    obtain ⟨k1,k2,k3⟩:=hc
    have hev:=hf.ev (hop x (by simp [Op.operands]))
    rw [hx] at hev
    simp only [Rep] at hev
    have hrun:=run_bytes_of_string (P:=P) w s t e str (strT_spec k2) (elT_spec he) (u8T_spec k1)
    have hl:str.data.toList.length=str.size:=by simp
    have G1:=goes_drew hM
    have G2:=G1.trans (goes_new G1.mem (.cells (bytesRow str (grownCap w str.size 0 e)) e ((bytesRow str (grownCap w str.size 0 e)).size,(bytesRow str (grownCap w str.size 0 e)).size+1)))
    refine ⟨.slice (some ⟨w.heap.size,0,none⟩) str.size (grownCap w str.size 0 e),_,η,?_,G2,?_⟩
    ·unfold execOp
     simp only [hev]
     rw [Sem.run_bind,hrun]
     rfl
    ·simp only [Rep]
     refine ⟨some ⟨w.heap.size,0,none⟩,grownCap w str.size 0 e,by rw [List.length_map,hl],by rw [List.length_map,hl];exact grownCap_ge _ _ _ _,by rw [List.length_map];exact k3,trivial,fun _=>⟨w.heap.size,0,1,rfl,by omega,RepE.mk fun j d hj=>?_⟩⟩
     rw [List.getElem?_map] at hj
     obtain ⟨u,hu,rfl⟩:=Option.map_eq_some_iff.1 hj
     refine ⟨trivial,fun _=>⟨rfl,fun k o hk' _=>?_,bv u,?_,rfl,by simp only [bD,Rep]⟩⟩
     ·have:=(hM.in_ k _ hk').2
      omega
     ·rw [Nat.zero_add,Nat.mul_one]
      have hj':j<str.data.size:=by
       rcases Nat.lt_or_ge j str.data.size with h1 | h1
       ·exact h1
       ·rw [List.getElem?_eq_none (by simpa using h1)] at hu;cases hu
      rw [show (⟨w.heap.size,j,none⟩:Addr)=⟨w.drew.heap.size,j,none⟩ from rfl,World.cell?_alloc_mark,bytesRow_at str _ j hj']
      rw [Array.getElem?_toList,Array.getElem?_eq_getElem hj'] at hu
      injection hu with hu
      rw [← hu]
   ·cases h
  ·cases h
 ·cases h
theorem rep_lit0 (hM:Mem P base S η w) (l:List UInt8) (e:TypeId) (hl:l.length≤140737488355328):Rep P (w.alloc (.cells (l.map bv).toArray e)) η (Fix P S η) (.sl .no (l.map bD)) (.slice (some ⟨w.heap.size,0,none⟩) l.length l.length):=by
 simp only [Rep]
 refine ⟨some ⟨w.heap.size,0,none⟩,l.length,by rw [List.length_map],by rw [List.length_map];exact Nat.le_refl _,by rw [List.length_map];exact hl,trivial,fun _=>⟨w.heap.size,0,1,rfl,by omega,RepE.mk fun j d hj=>?_⟩⟩
 rw [List.getElem?_map] at hj
 obtain ⟨u,hu,rfl⟩:=Option.map_eq_some_iff.1 hj
 refine ⟨trivial,fun _=>⟨rfl,fun k o hk' _=>?_,bv u,?_,rfl,by simp only [bD,Rep]⟩⟩
 ·have:=(hM.in_ k _ hk').2
  omega
 ·rw [Nat.zero_add,Nat.mul_one,World.cell?_alloc_mark]
  simp [hu]
theorem rep_lit (hM:Mem P base S η w) (l:List UInt8) (e:TypeId) (hl:l.length≤140737488355328):Rep P (w.alloc (.cells (l.map bv).toArray e ((l.map bv).toArray.size,(l.map bv).toArray.size+1))) η (Fix P S η) (.sl .no (l.map bD)) (.slice (some ⟨w.heap.size,0,none⟩) l.length l.length):=by
 simp only [Rep]
 refine ⟨some ⟨w.heap.size,0,none⟩,l.length,by rw [List.length_map],by rw [List.length_map];exact Nat.le_refl _,by rw [List.length_map];exact hl,trivial,fun _=>⟨w.heap.size,0,1,rfl,by omega,RepE.mk fun j d hj=>?_⟩⟩
 rw [List.getElem?_map] at hj
 obtain ⟨u,hu,rfl⟩:=Option.map_eq_some_iff.1 hj
 refine ⟨trivial,fun _=>⟨rfl,fun k o hk' _=>?_,bv u,?_,rfl,by simp only [bD,Rep]⟩⟩
 ·have:=(hM.in_ k _ hk').2
  omega
 ·rw [Nat.zero_add,Nat.mul_one,World.cell?_alloc_mark]
  simp [hu]
end
end Go.Proofs.YtogbklnkpjjkoaaGreatDoor
