/- Texts of a proof, part 1. Conditions: none. -/
import Derived.WalkKit
import Derived.WalkSmall
import Derived.WalkSpells
import Derived.WalkLawsBesides
import Derived.Maps.AppendAt
import Derived.Deep.AppendLies
import Derived.Deep.Draws
import Derived.Deep.QuietTactic
import Derived.BigQuiet
import Derived.Deep.DeepFit
import Derived.Deep.RegionWith
import Derived.Deep.RegionHeld3
import Derived.Deep.DrawnRows
import Derived.StillTailTactics
import Derived.Deep.DeepMust
import Derived.StillTail
import Derived.Deep.RegionHeld
import Derived.ProofKit
import Derived.OpenShut
import Derived.ShutString
import Derived.ChangeOld
import Derived.SizedLaws
import Derived.Deep.Slices
import Derived.Lib.SmallJoins
import Derived.WideKeyArr2
import Derived.Lib.Strings
import Derived.Deep.MidRow
import Derived.Laws.NewBlocks
import Derived.DeepKeys
import Derived.Deep.DeepCutAuto
import Derived.Test.YtogbklnkpjjkoaaGreatDoorProg
import Derived.Deep.Strs
import Derived.Sort.Walk0
import Derived.Lib.OthersKept
import Derived.Lib.TrimU
import Derived.Deep.LoopGhost
import Derived.Deep.AppendSrc
import Derived.Deep.Upon
import Derived.Laws.CopyRow
import Derived.Laws.CopyOwn
import Derived.Lib.SlBytesConst
import Derived.Deep.Quiet
import Derived.KernelRfl
import Derived.ChangeSame
import Derived.ChangeVars
import Derived.JoinedOf
import Derived.LaidLaws
import Derived.LaidHandle
import Derived.Stop.Joined
import Derived.Laws.Externs
import Derived.Stop.BytesEq
import Derived.Shelf.SlSortCmp.Insertion
import Derived.Shelf.SlSortCmp.WholeK
import Derived.Lib.QuietBelow
import Derived.Ground.SlsfProg
import Derived.RangeFuncRecord
import Derived.MapKept
import Derived.ChangeKeysEq
import Derived.RangeFuncLeaves
import Derived.RangeFuncSeq
import Derived.OrdersIn
import Derived.TacticsIn
import Derived.Shelf.Abstract
import Derived.OwnWalkIn
import Derived.TacticsInMore
import Derived.LoopNIn
import Derived.LoopIn
import Derived.BigRegionIn
import Derived.Ground.SlgnProg
import Derived.Shelf.SortG.Plain
import Derived.LaidEql
import Derived.Stop.Asserts
import Derived.RowKitTokens
import Derived.SevenTiedAt
import Derived.RowKit
set_option linter.unusedVariables false
set_option linter.unusedSimpArgs false
namespace Go.Proofs.YtogbklnkpjjkoaaGreatDoor
open Go.RowKit

theorem hide {p:Prop} (h:p):Hid p:=h
abbrev bv (b:UInt8):Value:=.int .u8 (b.toNat:Int)

structure Fr (F:Nat→Prop) (w w':World):Prop where
 os:w'.os=w.os
 tape:w'.tape=w.tape
 output:w'.output=w.output
 size:w.heap.size≤w'.heap.size
 block:∀ k,k<w.heap.size→¬ F k→w'.heap[k]? = w.heap[k]?

theorem Fr.refl (F:Nat→Prop) (w:World):Fr F w w:=⟨rfl,rfl,rfl,Nat.le_refl _,fun _ _ _=>rfl⟩
theorem Fr.trans {F:Nat→Prop} {a b c:World} (h:Fr F a b) (k:Fr (fun x=>F x∨a.heap.size≤x) b c):Fr F a c :=
 ⟨k.os.trans h.os,k.tape.trans h.tape,k.output.trans h.output,Nat.le_trans h.size k.size,fun i hi hn =>
  (k.block i (Nat.lt_of_lt_of_le hi h.size) (by rintro (x | x);exact hn x;omega)).trans (h.block i hi hn)⟩
theorem Fr.mono {F G:Nat→Prop} {a b:World} (h:Fr F a b) (hg:∀ k,k<a.heap.size→F k→G k):Fr G a b :=
 ⟨h.os,h.tape,h.output,h.size,fun i hi hn=>h.block i hi fun x=>hn (hg i hi x)⟩
theorem Fr.below {a b:World} {F:Nat→Prop} {B:Nat} (h:Fr F a b) (hB:B≤a.heap.size) (hF:∀ k,k<B→¬ F k):Below B a b :=
 ⟨h.os,h.tape,h.output,h.size,fun i hi=>h.block i (by omega) (hF i hi)⟩
theorem Fr.setCell {a b:World} {F:Nat→Prop} (h:Fr F a b) {p:Addr} (hp:F p.block∨a.heap.size≤p.block) (u:Value):Fr F a (b.setCell p u) :=
 ⟨h.os,h.tape,h.output,by simpa [World.setCell] using h.size,fun i hi hn=>(Below.heap_setCell b p u i (by
  rintro rfl
  rcases hp with hp | hp
  ·exact hn hp
  ·omega)).trans (h.block i hi hn)⟩
theorem Fr.cell {F:Nat→Prop} {a b:World} (h:Fr F a b) {p:Addr} (hp:p.block<a.heap.size) (hn:¬ F p.block):b.cell? p=a.cell? p :=
 World.cell?_of_block (w:=a) (h.block p.block hp hn)

def Reads (w:World) (B size:Nat) (A:Option Addr) (n:Nat) (xs:List Value):Prop :=
 xs.length=n * size∧(0<n→∃ b o,A=some ⟨b,o,none⟩∧b<B∧∀ j u,xs[j]? = some u→w.cell? ⟨b,o+j,none⟩=some u)

section
variable {w w' : World} {B B' size n : Nat} {A : Option Addr} {xs : List Value}
theorem Reads.keep (h:Reads w B size A n xs) (hk:∀ p:Addr,p.block<B→w'.cell? p=w.cell? p):Reads w' B size A n xs :=
 ⟨h.1,fun hn=>by
  obtain ⟨b,o,e,hb,hc⟩:=h.2 hn
  exact ⟨b,o,e,hb,fun j u hu=>(hk _ hb).trans (hc j u hu)⟩⟩
theorem Reads.take (h:Reads w B size A n xs) {k:Nat} (hk:k≤n):Reads w B size A k (xs.take (k * size)):=by
 refine ⟨by rw [List.length_take,h.1];exact Nat.min_eq_left (Nat.mul_le_mul_right _ hk),fun hn=>?_⟩
 obtain ⟨b,o,rfl,hb,hcell⟩:=h.2 (by omega)
 refine ⟨b,o,rfl,hb,fun j u hu=>hcell j u ?_⟩
 rw [List.getElem?_take] at hu
 split at hu
 ·exact hu
 ·cases hu
end
def Blk (w:World) (g:Nat) (t:TypeId) (cs:Array Value):Prop:=w.heap[g]? = some (.cells cs t (0,0))

section
variable {w w' : World} {g : Nat} {t : TypeId} {cs : Array Value}
theorem Blk.lt (h:Blk w g t cs):g<w.heap.size:=by
 rcases Nat.lt_or_ge g w.heap.size with hlt | hge
 ·exact hlt
 ·unfold Blk at h;rw [Array.getElem?_eq_none hge] at h;cases h
theorem Blk.cell (h:Blk w g t cs) (i:Nat):w.cell? ⟨g,i,none⟩=cs[i]? := cell_of_row w g i cs t (0,0) h
theorem Blk.frozen (h:Blk w g t cs) (i:Nat):w.frozen? ⟨g,i,none⟩=false:=by
 unfold Blk at h
 simp [World.frozen?,h]
theorem Blk.new (w:World) (t:TypeId) (cs:Array Value):Blk (w.alloc (.cells cs t)) w.heap.size t cs:=heap_alloc_new w _
theorem Blk.drewN (h:Blk w g t cs) (n:Nat):Blk (w.drewN n) g t cs:=h
theorem Blk.alloc (h:Blk w g t cs) (o:Obj):Blk (w.alloc o) g t cs:=(Below.heap_alloc w o g h.lt).trans h
theorem Blk.set_ (h:Blk w g t cs) (i:Nat) (u:Value):Blk (w.setCell ⟨g,i,none⟩ u) g t (cs.setIfInBounds i u):=by
 unfold Blk at h ⊢
 simp [World.setCell,Array.getElem?_modify,h]
theorem Blk.far (h:Blk w g t cs) {p:Addr} (hp:g ≠ p.block) (u:Value):Blk (w.setCell p u) g t cs:=(Below.heap_setCell w p u g hp).trans h
theorem Blk.below {B:Nat} (h:Blk w g t cs) (hb:Below B w w') (hg:g<B):Blk w' g t cs:=(hb.block g hg).trans h
theorem Blk.fr {F:Nat→Prop} (h:Blk w g t cs) (hf:Fr F w w') (hg:¬ F g):Blk w' g t cs:=(hf.block g h.lt hg).trans h
theorem Blk.grown {row:Option Nat} (h:Blk w g t cs) (hb:w.grownBy w' row) (hg:some g ≠ row):Blk w' g t cs:=(hb.block g h.lt hg).trans h
theorem own_fr {base:Nat} {e:TypeId} {size n:Nat} {v:Value} {xs:List Value} {F:Nat→Prop} (h:w.ownsRow base e size v n xs) (hf:Fr F w w') (hn:∀ k,v.ownBlock=some k→¬ F k):w'.ownsRow base e size v n xs:=by
 refine ⟨h.1,?_⟩
 rcases h.2 with x | ⟨g,cap,cur,rfl,hb,hh,r⟩
 ·exact .inl x
 ·exact .inr ⟨g,cap,cur,rfl,hb,(hf.block g (Blk.lt (t:=e) hh) (hn g rfl)).trans hh,r⟩
theorem own_below {base:Nat} {e:TypeId} {size n:Nat} {v:Value} {xs:List Value} {B:Nat} (h:w.ownsRow base e size v n xs) (hf:Below B w w') (hn:∀ k,v.ownBlock=some k→k<B):w'.ownsRow base e size v n xs:=by
 refine ⟨h.1,?_⟩
 rcases h.2 with x | ⟨g,cap,cur,rfl,hb,hh,r⟩
 ·exact .inl x
 ·exact .inr ⟨g,cap,cur,rfl,hb,(hf.block g (hn g rfl)).trans hh,r⟩
theorem own_below' {base:Nat} {e:TypeId} {size n:Nat} {v:Value} {xs:List Value} (h:w.ownsRow base e size v n xs) (hf:Below w.heap.size w w'):w'.ownsRow base e size v n xs :=
 own_below h hf fun k hk=>(h.lt k hk).2
end

section
variable {P : Program} (w : World)

theorem run_append_of_nil (base:Nat) (t ty e:TypeId) (i:TypeInfo) (size:Nat) (ht:P.underlying t=some (.slice e)) (hi:P.info? e=some i)
  (v:Value) (n:Nat) (xs:List Value) (hown:w.ownsRow base e size v n xs) (c:Nat):(Builtin.append_ #[t,t] ty #[v,.slice none 0 c]).run P w=.ok v w:=by
 rcases hown.2 with ⟨rfl,rfl⟩ | ⟨g,cap,cur,rfl,_,_,hnc,_⟩
 ·simp [Builtin.append_,run_underlying ht,sizeOf,typeInfo,hi,Builtin.lenOf,Builtin.firstCells]
 ·simp [Builtin.append_,run_underlying ht,sizeOf,typeInfo,hi,Builtin.lenOf,Builtin.firstCells,hnc,storeCells]

theorem run_append_any (base:Nat) (t ty e:TypeId) (i:TypeInfo) (z:Value) (size bytes:Nat) (ht:P.underlying t=some (.slice e)) (hi:P.info? e=some i) (hz:i.zero=some z)
  (hsize:i.size=size) (hby:i.bytes=bytes) (hzs:z.cells.size=size) (hsz:0<size)
  (v:Value) (n:Nat) (xs:List Value) (hown:w.ownsRow base e size v n xs)
  (B:Nat) (A:Option Addr) (m c:Nat) (news:List Value) (hr:Reads w B size A m news) (h1:∀ u∈news,u.oneCell'=true)
  (h63:n+m≤maxLen) (hbytes:(n+m) * bytes≤140737488355328) (hbase:base≤w.heap.size) :
  ∃ A' c' w',(Builtin.append_ #[t,t] ty #[v,.slice A m c]).run P w=.ok (.slice A' (n+m) c') w'∧w'.ownsRow base e size (.slice A' (n+m) c') (n+m) (xs++news)∧w.grownBy w' v.ownBlock ∧
   ((Value.slice A' (n+m) c').ownBlock=v.ownBlock∨(Value.slice A' (n+m) c').ownBlock=some w.heap.size):=by
 have key:∃ v' w',(Builtin.append_ #[t,t] ty #[v,.slice A m c]).run P w=.ok v' w'∧w'.ownsRow base e size v' (n+m) (xs++news)∧w.grownBy w' v.ownBlock ∧
   (v'.ownBlock=v.ownBlock∨v'.ownBlock=some w.heap.size):=by
  rcases A with _ | ad
  ·have hm:m=0:=by
    rcases Nat.eq_zero_or_pos m with h0 | h0
    ·exact h0
    ·obtain ⟨_,_,h,_⟩:=hr.2 h0
     cases h
   subst hm
   have hn:news=[]:=List.eq_nil_of_length_eq_zero (by simpa using hr.1)
   subst hn
   exact ⟨v,w,run_append_of_nil w base t ty e i size ht hi v n xs hown c,by simpa using hown,World.grownBy.refl w _,.inl rfl⟩
  ·have hcells:∀ j u,news[j]? = some u→w.cell? (ad.add j)=some u:=by
    intro j u hu
    rcases Nat.eq_zero_or_pos m with h0 | h0
    ·subst h0
     have hn:news=[]:=List.eq_nil_of_length_eq_zero (by simpa using hr.1)
     subst hn
     simp at hu
    ·obtain ⟨b,o,h,_,hc⟩:=hr.2 h0
     injection h with h
     subst h
     rw [Addr.add_lit]
     exact hc j u hu
   obtain ⟨v',w',hrun,h2,h3,_,h5⟩:=run_append_own_at (P:=P) w base t ty e i z size bytes ht hi hz hsize hby hzs hsz v n xs hown ad m c news hr.1 hcells h1 h63 hbytes hbase
   exact ⟨v',w',hrun,h2,h3,h5⟩
 obtain ⟨v',w',hrun,h2,h3,h4⟩:=key
 obtain ⟨A',c',rfl⟩:∃ A' c',v'=.slice A' (n+m) c':=by
  rcases h2.2 with ⟨rfl,h0⟩ | ⟨g,cap,cur,rfl,_⟩
  ·exact ⟨none,0,by rw [h0]⟩
  ·exact ⟨_,_,rfl⟩
 exact ⟨A',c',w',hrun,h2,h3,h4⟩

theorem wpList_append_any {ops:Array Oper} {rest:List Oper} {o:Oper} {a:Act} {Q:Exit→Act→World→Prop} (hgd:o.guard=none) (s x:Operand) (t:TypeId)
  (ho:o.op=.call { callee:=.builtin .append,args:=#[s,x],argTypes:=#[t,t] })
  (base:Nat) (e:TypeId) (i:TypeInfo) (z:Value) (size bytes:Nat) (ht:P.underlying t=some (.slice e)) (hi:P.info? e=some i) (hz:i.zero=some z)
  (hsize:i.size=size) (hby:i.bytes=bytes) (hzs:z.cells.size=size) (hsz:0<size)
  (v:Value) (n:Nat) (xs:List Value) (hs:a.eval s=v) (hown:w.ownsRow base e size v n xs)
  (B:Nat) (A:Option Addr) (m c:Nat) (news:List Value) (hx:a.eval x=.slice A m c) (hr:Reads w B size A m news) (h1:∀ u∈news,u.oneCell'=true)
  (h63:n+m≤maxLen) (hbytes:(n+m) * bytes≤140737488355328) (hbase:base≤w.heap.size)
  (h:∀ A' c' w',w'.ownsRow base e size (.slice A' (n+m) c') (n+m) (xs++news)→w.grownBy w' v.ownBlock→((Value.slice A' (n+m) c').ownBlock=v.ownBlock∨(Value.slice A' (n+m) c').ownBlock=some w.heap.size)→wpList P ops Q rest (a.put o.dst (.slice A' (n+m) c')) w'):wpList P ops Q (o::rest) a w:=by
 refine wpList_plain hgd fun K hK=>?_
 obtain ⟨A',c',w',hrun,h2,h3,h4⟩:=run_append_any (P:=P) w base t o.type e i z size bytes ht hi hz hsize hby hzs hsz v n xs hown B A m c news hr h1 h63 hbytes hbase
 unfold Oper.wp execOp
 simp only [ho,resolve,invoke,builtin,Sem.run_bind,Sem.run_pure,Result.andThen_ok,List.map_toArray,List.map_cons,List.map_nil,hs,hx,hrun]
 exact hK _ _ (h A' c' w' h2 h3 h4)
end

theorem run_string_of_bytes {P:Program} {w:World} {B n c:Nat} {A:Option Addr} {l:List UInt8} (src dst e:TypeId) (hs:P.underlying src=some (.slice e)) (he:P.underlying e=some (.int .u8)) (hd:P.underlying dst=some .string)
  (hr:Reads w B 1 A n (l.map bv)):(convert src dst (.slice A n c)).run P w=.ok (.string ⟨l.toArray⟩) w:=by
 have hn:l.length=n:=by have:=hr.1;simpa using this
 subst hn
 rcases Nat.eq_zero_or_pos l.length with h0 | h0
 ·have:l=[]:=List.eq_nil_of_length_eq_zero h0
  subst this
  rcases A with _ | ad
  ·exact run_convert_bytes_nil w src e hs he 0 c dst hd
  ·exact run_convert_bytes_back w src dst e ad c [] hs he hd fun j hj=>absurd hj (by simp)
 ·obtain ⟨b,o,rfl,_,hc⟩:=hr.2 h0
  exact run_convert_bytes_back w src dst e _ c l hs he hd fun j hj=>by rw [Addr.add_lit];exact hc j _ (by simp [List.getElem?_eq_getElem hj])
theorem ret_eq {a b:Value} (h:a=b):Ending.returned a=.returned b:=by rw [h]
theorem int_eq {k:IntKind} {a b:Int} (h:a=b):Value.int k a=.int k b:=by rw [h]
def Gives (v:Value) (w:World) (e:Ending) (w':World):Prop:=e=.returned v∧Below w.heap.size w w'
end Go.Proofs.YtogbklnkpjjkoaaGreatDoor
namespace Go.Proofs.YtogbklnkpjjkoaaGreatDoor

section
variable {P : Program} {md : Region.Mode}

theorem wpAny_more {ops:Array Oper} {Q:Exit→Act→World→Prop}:∀ (f:Nat) (listed:Array Bool) (a:Act) (w:World),wpAny P md ops Q f listed a w→wpAny P md ops Q (f+1) listed a w
 | 0,_,_,_,h=>⟨fun _=>h.2,fun i hi=>by rw [h.1] at hi;cases hi⟩
 | f+1,_,_,_,h=>⟨h.1,fun i hi=>wpOp_mono (fun a' w' h'=>wpAny_more f _ a' w' h') (h.2 i hi)⟩
theorem wpAny_moreN {ops:Array Oper} {Q:Exit→Act→World→Prop} {f:Nat} {listed:Array Bool} {a:Act} {w:World} (h:wpAny P md ops Q f listed a w):∀ k,wpAny P md ops Q (k+f) listed a w
 | 0=>by rw [Nat.zero_add];exact h
 | k+1=>by rw [show k+1+f=(k+f)+1 by omega];exact wpAny_more _ _ _ _ (wpAny_moreN h k)

def backB (l:List Oper) (n:Nat):Bool :=
 (List.range n).all fun j=>match l[j]? with
  | some o=>(o.after.all fun e=>decide (e.on<j)) && (match o.guard with | some (g,_)=>decide (g<n) | none=>true)
  | none=>true
def heldTailB (l:List Oper) (n:Nat):Bool :=
 decide (n<l.length) && Region.sinkB .any l.toArray n && Region.chainB .any l.toArray n && backB l n && Region.seqB .any l.toArray (l.length - n) n (Array.replicate n true++Array.replicate (l.length - n) false)

theorem getD_app_lt {L:Array Bool} {g j n:Nat} (d:Bool) (hL:L.size=n) (hj:j<n):(L++Array.replicate g false).getD j d=L.getD j d:=by
 subst hL
 simp [hj,Nat.lt_of_lt_of_le hj (Nat.le_add_right _ _)]
theorem take_get {l:List Oper} {n j:Nat} (hj:j<n):(l.take n).toArray[j]? = l.toArray[j]? := by
 simp [hj]

theorem backB_spec {l:List Oper} {n j:Nat} {o:Oper} (h:backB l n=true) (hj:j<n) (ho:l.toArray[j]? = some o):(∀ e∈o.after,e.on<j)∧∀ g b,o.guard=some (g,b)→g<n:=by
 have h1:=List.all_eq_true.1 h j (List.mem_range.2 hj)
 have ho':l[j]? = some o:=by simpa using ho
 simp only [ho',Bool.and_eq_true] at h1
 refine ⟨fun e he=>?_,fun g b hg=>?_⟩
 ·have:=Array.all_eq_true_iff_forall_mem.1 h1.1 e he
  simpa using this
 ·have:=h1.2
  rw [hg] at this
  simpa using this

theorem ready_head {l:List Oper} {n g j:Nat} {L:Array Bool} (hb:backB l n=true) (hL:L.size=n) (hj:j<n):j∈Region.ready md l.toArray (L++Array.replicate g false)↔j∈Region.ready md (l.take n).toArray L:=by
 rw [mem_ready,mem_ready,getD_app_lt true hL hj,take_get hj]
 constructor
 ·rintro ⟨h0,o,ho,hall⟩
  refine ⟨h0,o,ho,fun e he hbd=>?_⟩
  have hlt:=(backB_spec hb hj ho).1 e he
  have:=hall e he hbd
  rwa [getD_app_lt false hL (by omega)] at this
 ·rintro ⟨h0,o,ho,hall⟩
  refine ⟨h0,o,ho,fun e he hbd=>?_⟩
  have hlt:=(backB_spec hb hj ho).1 e he
  rw [getD_app_lt false hL (by omega)]
  exact hall e he hbd

theorem head_done {l:List Oper} {n:Nat} {L:Array Bool} (hn:n<l.length) (hb:backB l n=true) (hL:L.size=n) (hr:Region.ready md (l.take n).toArray L=[]):∀ i,i<n→L.getD i false=true:=by
 intro i
 induction i using Nat.strongRecOn with
 | _ i ih =>
  intro hi
  cases h:L.getD i false with
  | true=>rfl
  | false =>
   exfalso
   have hil:i<l.length:=by omega
   have ho:l.toArray[i]? = some l[i]:=by simp [hil]
   have:i∈Region.ready md (l.take n).toArray L:=mem_ready.2 ⟨getD_in (by omega) h,l[i],by rw [take_get hi];exact ho,fun e he _=>ih e.on ((backB_spec hb hi ho).1 e he) (by have:=(backB_spec hb hi ho).1 e he;omega)⟩
   rw [hr] at this
   cases this

theorem wpOp_head {l:List Oper} {n i:Nat} {Q:Exit→Act→World→Prop} {T:Act→World→Prop} {K:Act→World→Prop} {a:Act} {w:World} (hb:backB l n=true) (hi:i<n) (hil:i<l.length)
  (h:wpOp P (l.take n).toArray (Exit.then T Q) i K a w):wpOp P l.toArray Q i K a w:=by
 have ho:l.toArray[i]? = some l[i]:=by simp [hil]
 have hg:=(backB_spec hb hi ho).2
 have hy:Region.wanted l[i] (yielded (l.take n).toArray a.tmps)=Region.wanted l[i] (yielded l.toArray a.tmps):=by
  unfold Region.wanted
  cases hgd:l[i].guard with
  | none=>rfl
  | some gb =>
   obtain ⟨g,b⟩:=gb
   have hlt:=hg g b hgd
   simp only [yielded,take_get hlt]
 unfold wpOp at h ⊢
 rw [take_get hi] at h
 simp only [ho] at h ⊢
 rw [hy] at h
 by_cases hw:Region.wanted l[i] (yielded l.toArray a.tmps)=true
 ·rw [if_pos hw] at h ⊢
  rcases h with h | ⟨h1,h2⟩
  ·refine .inl ?_
   unfold Oper.wp at h ⊢
   generalize (execOp a.eval l[i]).run P w=r at *
   cases r with
   | ok x w' =>
    cases x <;> simp only [Oper.upon] at h ⊢ <;> first
     | exact h
     | exact Calls.mono h (fun e w'' he=>by cases e <;> exact he)
   | halt x w'=>cases x <;> simp only [Oper.upon] at h ⊢ <;> exact h
  ·obtain ⟨a',w',h2⟩:=h2
   exact .inr ⟨h1,a',w',h2⟩
 ·rw [if_neg hw] at h ⊢
  exact h

theorem head_inv_set {l:List Oper} {n i g:Nat} {L:Array Bool} (hL:L.size=n) (hi:i<n):(L++Array.replicate g false).setIfInBounds i true=L.setIfInBounds i true++Array.replicate g false:=by
 subst hL
 rw [Array.setIfInBounds_append,if_pos hi]

theorem wpAny_tail {l:List Oper} {n:Nat} {Q:Exit→Act→World→Prop} (hn:n<l.length) (hs:Region.sinkB md l.toArray n=true) (hc:Region.chainB md l.toArray n=true) (hb:backB l n=true)
  (hq:Region.seqB md l.toArray (l.length - n) n (Array.replicate n true++Array.replicate (l.length - n) false)=true) :
  ∀ (f:Nat) (L:Array Bool) (a:Act) (w:World),HeadInv md l.toArray n (L++Array.replicate (l.length - n) false)→L.size=n →
   wpAny P md (l.take n).toArray (Exit.then (fun a w=>wpList P l.toArray Q (l.drop n) a w) Q) f L a w→wpAny P md l.toArray Q (f+(l.length - n)) (L++Array.replicate (l.length - n) false) a w:=by
 have hend:∀ (L:Array Bool) (a:Act) (w:World),L.size=n→Region.ready md (l.take n).toArray L=[]→wpList P l.toArray Q (l.drop n) a w→wpAny P md l.toArray Q (l.length - n) (L++Array.replicate (l.length - n) false) a w:=by
  intro L a w hL hr h
  have hd:=head_done hn hb hL hr
  have hLe:L=Array.replicate n true:=by
   apply Array.ext
   ·simp [hL]
   ·intro j h1 h2
    have:=hd j (by omega)
    simpa [h1] using this
  have:=wpAny_of_seq (md:=md) (Q':=Q) (P:=P) (ops:=l.toArray) (l.drop n) n (L++Array.replicate (l.length - n) false) a w (fun j=>by simp [List.getElem?_drop]) (by rw [hLe,List.length_drop];exact hq) h
  rwa [List.length_drop] at this
 intro f
 induction f with
 | zero =>
  intro L a w inv hL h
  rw [Nat.zero_add]
  exact hend L a w hL h.1 h.2
 | succ f ih =>
  intro L a w inv hL h
  by_cases hr:Region.ready md (l.take n).toArray L=[]
  ·exact wpAny_moreN (hend L a w hL hr (h.1 hr)) (f+1)
  ·obtain ⟨i0,hi0⟩:∃ i,i∈Region.ready md (l.take n).toArray L:=by
    cases hx:Region.ready md (l.take n).toArray L with
    | nil=>exact absurd hx hr
    | cons x xs=>exact ⟨x,by simp⟩
   have hi0n:i0<n:=by
    obtain ⟨_,o,ho,_⟩:=mem_ready.1 hi0
    have:=(Array.getElem?_eq_some_iff.1 ho).1
    simp at this
    omega
   have hi0f:=(ready_head (g:=l.length - n) hb hL hi0n).2 hi0
   have hun:=(mem_ready.1 hi0f).1
   have hlt:∀ j∈Region.ready md l.toArray (L++Array.replicate (l.length - n) false),j<n:=by
    intro j hj
    rcases Nat.lt_or_ge j n with h' | h'
    ·exact h'
    ·exact absurd hj (tail_waits hs hc (by simpa using hn) inv _ i0 rfl hi0n hun j h')
   rw [show f+1+(l.length - n)=(f+(l.length - n))+1 by omega]
   refine ⟨fun h0=>(by rw [h0] at hi0f;cases hi0f),fun i hi=>?_⟩
   have hin:=hlt i hi
   refine wpOp_head hb hin (by omega) (wpOp_mono (fun a' w' h'=>?_) (h.2 i ((ready_head hb hL hin).1 hi)))
   rw [head_inv_set (l:=l) hL hin]
   refine ih _ a' w' ?_ (by simp [hL]) h'
   rw [← head_inv_set (l:=l) hL hin]
   exact inv.set hi hin

theorem wp_region_any_tail {l:List Oper} (n:Nat) {id:Nat} {Q:Exit→Act→World→Prop} {a:Act} {w:World} (hm:P.follows .mixedOrders=true) (hB:heldTailB l n=true)
  (h:wpAny P .any (l.take n).toArray (Exit.then (fun a w=>wpList P l.toArray Q (l.drop n) a w) Q) (l.take n).toArray.size (Array.replicate (l.take n).toArray.size false) a w.drew):(Code.region id l.toArray true).wp P Q a w:=by
 simp only [heldTailB,Bool.and_eq_true,decide_eq_true_eq] at hB
 obtain ⟨⟨⟨⟨hn,hs⟩,hc⟩,hb⟩,hq⟩:=hB
 have htl:(l.take n).toArray.size=n:=by simp;omega
 rw [htl] at h
 refine wp_region_any hm ?_
 have e:Array.replicate l.toArray.size false=Array.replicate n false++Array.replicate (l.length - n) false:=by
  rw [Array.replicate_append_replicate];congr 1;simp;omega
 have inv0:HeadInv .any l.toArray n (Array.replicate n false++Array.replicate (l.length - n) false):=by
  rw [← e]
  exact ⟨by simp,fun j oj _ hl=>(by rw [getD_replicate_false] at hl;cases hl),fun t _ ht=>getD_in (by simpa using ht) (getD_replicate_false _ _)⟩
 have:=wpAny_tail hn hs hc hb hq n (Array.replicate n false) a w.drew inv0 (by simp) h
 rw [e]
 rw [show n+(l.length - n)=l.toArray.size by simp;omega] at this
 exact this

def nth:List Oper→Nat→Option Oper
 | [],_=>none
 | o::_,0=>some o
 | _::l,n+1=>nth l n
theorem nth_eq:∀ (l:List Oper) (i:Nat),nth l i=l[i]?
 | [],i=>by simp [nth]
 | o::_,0=>by simp [nth]
 | _::l,n+1=>by simp [nth,nth_eq l n]

section
variable {l : List Oper} {Q : Exit → Act → World → Prop} {S : World → Prop} {fuel i : Nat} {oi : Oper} {listed : Array Bool} {a : Act} {w : World}
theorem load_exec {op:Oper} {a:Act} {w:World} (ty:TypeId) (x:Operand) (ho:op.op=.load ty x) (b o:Nat) (hx:a.eval x=.pointer (some ⟨b,o,none⟩)) (cs:List Value) (d:TypeDesc) (hc:w.rangeAt b o cs)
  (hu:P.underlying ty=some d) (hd:d.isRow=true) (hi:(P.info? ty).map (·.size)=some cs.length):(execOp a.eval op).run P w=.ok (.value (.agg cs.toArray)) w:=by
 unfold execOp
 simp only [ho,hx,Instr.loadAt,Instr.sureAddr,Sem.run_bind,Sem.run_pure,Result.andThen_ok,run_loadVar_mid w b o ty cs d hc hu hd hi]
theorem takeH {t:Tmp} {v:Value} (hi:nth l i=some oi) (hd:oi.dst=some t) (hs:Region.noSelect l.toArray=true) (hf:Region.free md l.toArray listed i=true) (hr:(Region.ready md l.toArray listed).contains i=true)
  (hQ:∀ c a w,Q (.panic c) (a.put (some t) v) w→Q (.panic c) a w) (hw:Region.wanted oi (yielded l.toArray a.tmps)=true) (hy:∀ w,S w→(execOp a.eval oi).run P w=.ok (.value v) w) (hS:S w)
  (h:wpAnyH P md l.toArray Q S fuel (listed.setIfInBounds i true) (a.put (some t) v) w):wpAnyH P md l.toArray Q S (fuel+1) listed a w:=by
 rw [nth_eq] at hi
 rw [← hd] at hQ h
 exact wpAnyH_take (by simpa using hi) hs hf hr hQ (.inl ⟨hw,hy⟩) hS h
theorem oneH (hi:nth l i=some oi) (hr:Region.ready md l.toArray listed=[i])
  (h:∀ K':Act→World→Prop,Shut (∀ a w,S w→(S w→wpAnyH P md l.toArray Q S fuel (listed.setIfInBounds i true) a w)→K' a w)→if Region.wanted oi (yielded l.toArray a.tmps)=true then Oper.wp P oi a w K' Q else K' (a.put oi.dst undef) w):wpAnyH P md l.toArray Q S (fuel+1) listed a w:=by
 rw [nth_eq] at hi
 exact wpAnyH_ready hr (by simp) (AllReadyH.cons (by simpa using hi) h AllReadyH.nil)
end
end
end Go.Proofs.YtogbklnkpjjkoaaGreatDoor
namespace Go.Proofs.YtogbklnkpjjkoaaGreatDoor
open Go.ChangeShapes Go.WideShapes Go.ChangeAt Go.RowKit
open Go.ChangeMaps (open_string shut_string)

def Sized {H:Type} (P:Program) (t:TypeId) (d:DataW H):Prop:=∀ n∈d.weights P t,n≤reachBytes

section
variable {H : Type} {enc : TypeId × Value → H} {P : Program} {w : World}

theorem sized_of_each {ts:List TypeId} {ds:List (DataW H)} (h:(DataW.weightsEach P ts ds).all (·≤reachBytes)=true) {j:Nat} {t:TypeId} {d:DataW H} (ht:ts[j]? = some t) (hd:ds[j]? = some d):Sized P t d:=fun n hn=>by
 have:=List.all_eq_true.1 h _ (DataW.weights_mem_each ht hd n hn)
 simpa using this
theorem sized_each {fs:Array Field} {t:TypeId} {parts:List (DataW H)} (ht:P.underlying t=some (.struct fs)) (h:Sized P t (.agg parts)) {j:Nat} {f:Field} {d:DataW H} (hf:fs[j]? = some f) (hd:parts[j]? = some d):Sized P f.type d:=fun n hn=>by
 refine h n ?_
 simp only [DataW.weights,ht]
 exact DataW.weights_mem_each (by simpa using congrArg (Option.map (·.type)) hf) hd n hn
theorem weights_mem_all {e:TypeId} {l:List (DataW H)} {d:DataW H} (hd:d∈l) {n:Nat} (hn:n∈d.weights P e):n∈DataW.weightsAll P e l:=by
 induction l with
 | nil=>cases hd
 | cons x l ih =>
  simp only [DataW.weightsAll,List.mem_append]
  rcases List.mem_cons.1 hd with rfl | h
  ·exact .inl hn
  ·exact .inr (ih h)
theorem sized_elem {t e:TypeId} {elems spare:List (DataW H)} (ht:P.underlying t=some (.slice e)) (h:Sized P t (.slice elems spare)) {d:DataW H} (hd:d∈elems):Sized P e d:=fun n hn=>by
 refine h n ?_
 simp only [DataW.weights,ht,List.mem_cons,List.mem_append]
 exact .inr (.inl (weights_mem_all hd hn))
theorem sized_len {t e:TypeId} {elems spare:List (DataW H)} (ht:P.underlying t=some (.slice e)) (h:Sized P t (.slice elems spare)):(elems.length+spare.length) * P.bytesOf e≤140737488351232:=by
 refine h _ ?_
 simp only [DataW.weights,ht,List.mem_cons,true_or]

theorem plain_of_cells {a:Addr} {size:Nat} {cs:List Value} (hs:0<size) (h:w.cells? 0 (a.add (0 * size)) size=some cs):∃ b o,a=⟨b,o,none⟩∧b<w.heap.size:=by
 obtain ⟨_,hlen,hcell⟩:=World.cells?_some h
 have h0:=hcell 0 hs
 rw [List.getElem?_eq_getElem (by omega)] at h0
 obtain ⟨b,o,sp⟩:=a
 have:sp=none:=by simpa [Addr.add] using World.cell?_spot h0
 subst this
 exact ⟨b,o,rfl,by have:=World.block_lt_of_cell? w _ h0;simpa [Addr.add] using this⟩
theorem cells_at {b o k size:Nat} {cs:List Value} (h:w.cells? 0 ((⟨b,o,none⟩:Addr).add k) size=some cs):cs.length=size∧∀ j u,cs[j]? = some u→w.cell? ⟨b,o+k+j,none⟩=some u:=by
 obtain ⟨_,hlen,hcell⟩:=World.cells?_some h
 refine ⟨hlen,fun j u hu=>?_⟩
 have hj:j<size:=by
  have:=(List.getElem?_eq_some_iff.1 hu).1
  omega
 have:=hcell j hj
 rw [Addr.add_lit,Addr.add_lit] at this
 rw [this,hu]

theorem trodAll_below (hl:laidOutB P=true) {W W':World} (hb:Below W.heap.size W W'):∀ {ts:List TypeId} {vs:List Value} {ds:List (DataW H)} {ps:List MemPlace},
  (ts.all fun t=>P.readableRec t && decide (t<P.types.size))=true→DataW.TrodAll enc P W 0 (fun _=>true) true ts vs ds ps→DataW.TrodAll enc P W' 0 (fun b=>decide (b<W.heap.size)) true ts vs ds ps
 | [],[],[],_,_,h=>h
 | t::ts,v::vs,d::ds,ps,hr,h=>by
  obtain ⟨p,q,h1,h2,rfl⟩:=h
  simp only [List.all_cons,Bool.and_eq_true,decide_eq_true_eq] at hr
  refine ⟨p,q,Below.trod hl hr.1.1 hr.1.2 h1 hb ?_,trodAll_below hl hb hr.2 h2,rfl⟩
  obtain ⟨m,hm⟩:=h1
  exact DataW.trod_lt m _ _ _ hm
 | [],_::_,_,_,_,h=>h.elim
 | [],[],_::_,_,_,h=>h.elim
 | _::_,[],_,_,_,h=>h.elim
 | _::_,_::_,[],_,_,h=>h.elim
end
end Go.Proofs.YtogbklnkpjjkoaaGreatDoor
namespace Go.Proofs.YtogbklnkpjjkoaaGreatDoor
open Go.ChangeShapes Go.WideShapes Go.ChangeAt Go.RowKit Go.Deep Go.Joins
section
variable {H : Type} {enc : TypeId × Value → H} {P : Program} {w : World}

def IsRows {α:Type} (B size:Nat) (R:Nat→Nat→α→Prop) (A:Option Addr) (l:List α):Prop :=
 0<l.length→∃ b o,A=some ⟨b,o,none⟩∧b<B∧∀ (i:Nat) (d:α),l[i]? = some d→R b (o+i * size) d

theorem open_rows_trod {α:Type} {t e:TypeId} {size bytes:Nat} (ht:P.underlying t=some (.slice e)) (hc:P.cellsOf e=size) (hs0:0<size) (hby:P.bytesOf e=bytes) (hb0:0<bytes) (R:Nat→Nat→α→Prop)
  (elem:∀ (fuel:Nat) (cs:List Value) (x:DataW H × List MemPlace) (b o:Nat),b<w.heap.size→DataW.trod enc P w 0 (fun _=>true) true fuel e cs=some x→Sized P e x.1→cs.length=size→(∀ j u,cs[j]? = some u→w.cell? ⟨b,o+j,none⟩=some u)→∃ d,R b o d)
  {fuel:Nat} {cs:List Value} {x:DataW H × List MemPlace} (h:DataW.trod enc P w 0 (fun _=>true) true fuel t cs=some x) (hs:Sized P t x.1) :
  ∃ (A:Option Addr) (c:Nat) (l:List α),cs=[.slice A l.length c]∧l.length≤c∧IsRows w.heap.size size R A l∧c * bytes≤140737488351232:=by
 rcases open_slice ht h with ⟨hcs,rfl⟩ | ⟨a,len,cap,m,n,D,Pl,hcs,_,hl,hm,hmm,rfl,hel⟩
 ·exact ⟨none,0,[],hcs,Nat.le_refl _,fun h=>absurd h (by simp),by omega⟩
 ·simp only [if_true] at hmm
  subst hmm
  have hb:=sized_len ht hs
  rw [hby] at hb
  simp only [List.length_map,List.length_range] at hb
  rw [show len+(m - len)=m by omega] at hb
  rw [hc] at hel
  rcases Nat.eq_zero_or_pos len with h0 | h0
  ·subst h0
   exact ⟨some a,m,[],hcs,Nat.zero_le _,fun h=>absurd h (by simp),hb⟩
  obtain ⟨b,o,rfl,hbl⟩:∃ b o,a=⟨b,o,none⟩∧b<w.heap.size:=by
   obtain ⟨cs',h1,_⟩:=hel 0 (by omega)
   exact plain_of_cells hs0 h1
  have key:∀ i,i<len→∃ y:α,R b (o+i * size) y:=by
   intro i hi
   obtain ⟨cs',h1,h2⟩:=hel i (by omega)
   obtain ⟨hlen,hcell⟩:=cells_at h1
   exact elem _ _ _ b (o+i * size) hbl h2 (sized_elem ht hs (List.mem_map.2 ⟨i,by simpa using hi,rfl⟩)) hlen hcell
  haveI:Inhabited α:=⟨Classical.choose (key 0 h0)⟩
  obtain ⟨f,hf⟩:=choose_lt key
  have hlen:((List.range len).map f).length=len:=by simp
  refine ⟨some ⟨b,o,none⟩,m,(List.range len).map f,by rw [hlen];exact hcs,by rw [hlen];exact hl,fun _=>⟨b,o,rfl,hbl,fun i d hd=>?_⟩,hb⟩
  have hi:i<len:=by
   have:=(List.getElem?_eq_some_iff.1 hd).1
   simpa using this
  simp [hi] at hd
  subst hd
  exact hf i hi

theorem open_u8array {t e:TypeId} {n fuel:Nat} {cs:List Value} {x:DataW H × List MemPlace} (ht:P.underlying t=some (.array n e)) (he:P.underlying e=some (.int .u8)) (hct:P.cellsOf t=n) (hce:P.cellsOf e=1)
  (h:DataW.trod enc P w 0 (fun _=>true) true fuel t cs=some x):∃ l:List UInt8,l.length=n∧cs=l.map bv:=by
 obtain ⟨xs,m,_,_,hlen,hxs,hel⟩:=DataW.trod_array ht h
 rw [hct] at hlen
 rw [hce] at hel
 refine ⟨(List.range n).map fun i=>UInt8.ofNat (match cs[i]? with | some (Value.int _ z)=>z.toNat | _=>0),by simp,?_⟩
 refine List.ext_getElem (by simp [hlen]) fun i h1 h2=>?_
 have hi:i<n:=by omega
 have h3:=hel i hi
 rw [Nat.mul_one,List.drop_eq_getElem_cons h1,List.take_succ_cons,List.take_zero,List.getElem?_eq_getElem (by omega)] at h3
 obtain ⟨z,hz,_,hw⟩:=DataW.trod_int he h3
 have hz':cs[i]=.int .u8 z:=by simpa using hz
 have hb:=bounds_u8 hw
 rw [hz']
 simp only [List.getElem_map,List.getElem_range,List.getElem?_eq_getElem h1,hz']
 refine int_eq ?_
 simp
 omega
end
end Go.Proofs.YtogbklnkpjjkoaaGreatDoor
namespace Go.Proofs.YtogbklnkpjjkoaaGreatDoor
open Go.RowKit

def I64 (n:Int):Prop:=(Lit.int .i64 n).wf=true
def U64 (n:Int):Prop:=(Lit.int .u64 n).wf=true
abbrev Str:=List UInt8
def strB (l:Str):ByteArray:=⟨l.toArray⟩
@[simp, go_sem] theorem strB_toList (l:Str):(strB l).toList=l:=by
 rw [Go.Lib.toList_data];simp [strB]
@[simp, go_sem] theorem strB_size (l:Str):(strB l).size=l.length:=by simp [strB,ByteArray.size]
@[simp, go_sem] theorem strB_get (l:Str) (i:Nat) (h:i<(strB l).size):(strB l)[i]'h=l[i]'(by simpa using h):=by simp only [strB];rfl
abbrev sv (s:Str):Value:=.string (strB s)
abbrev uv (n:Nat):Value:=.int .u64 (n:Int)

def RF (w:World) (F:Nat→Prop) (size:Nat) (A:Option Addr) (n:Nat) (xs:List Value):Prop :=
 xs.length=n * size∧(0<n→∃ b o,A=some ⟨b,o,none⟩∧F b∧∀ j u,xs[j]? = some u→w.cell? ⟨b,o+j,none⟩=some u)
section
variable {w w' : World} {F G : Nat → Prop} {size n : Nat} {A : Option Addr} {xs : List Value}
theorem RF.keep (h:RF w F size A n xs) (hk:∀ q:Addr,F q.block→w'.cell? q=w.cell? q):RF w' F size A n xs :=
 ⟨h.1,fun hn=>by
  obtain ⟨b,o,e,hb,hc⟩:=h.2 hn
  exact ⟨b,o,e,hb,fun j u hu=>(hk _ hb).trans (hc j u hu)⟩⟩
theorem RF.mono (h:RF w F size A n xs) (hg:∀ k,F k→G k):RF w G size A n xs :=
 ⟨h.1,fun hn=>by
  obtain ⟨b,o,e,hb,hc⟩:=h.2 hn
  exact ⟨b,o,e,hg _ hb,hc⟩⟩
theorem RF.reads {B:Nat} (h:RF w F size A n xs) (hg:∀ k,F k→k<B):Reads w B size A n xs :=
 ⟨h.1,fun hn=>by
  obtain ⟨b,o,e,hb,hc⟩:=h.2 hn
  exact ⟨b,o,e,hg _ hb,hc⟩⟩
theorem RF.at_ {α:Type} {f:α→Value} {l:List α} {k:Nat} (h:RF w F 1 A n (l.map f)) (hk:k<l.length):∃ b o,A=some ⟨b,o,none⟩∧F b∧w.cell? ⟨b,o+k,none⟩=some (f l[k]):=by
 have hn:l.length=n:=by have:=h.1;simpa using this
 obtain ⟨b,o,e,hb,hc⟩:=h.2 (by omega)
 exact ⟨b,o,e,hb,hc k _ (by simp [hk])⟩
end

theorem setCells_alloc (W:World) (t:TypeId):∀ (vs:List Value) (o:Nat) (Z:List Value),o+vs.length≤Z.length →
  (W.alloc (.cells Z.toArray t)).setCells W.heap.size o vs=W.alloc (.cells (Z.take o++vs++Z.drop (o+vs.length)).toArray t):=by
 intro vs
 induction vs with
 | nil=>intro o Z h;simp [World.setCells]
 | cons v vs ih =>
  intro o Z h
  simp only [List.length_cons] at h
  have e0:(W.alloc (.cells Z.toArray t)).setCell ⟨W.heap.size,o,none⟩ v=W.alloc (.cells (Z.set o v).toArray t):=by
   rw [World.setCell_alloc_at _ _ _ _ _ rfl]
   simp
  have h2:=ih (o+1) (Z.set o v) (by simp;omega)
  have e:(Z.set o v).take (o+1)++vs++(Z.set o v).drop (o+1+vs.length)=Z.take o++v::vs++Z.drop (o+(vs.length+1)):=by
   rw [List.drop_set_of_lt (by omega),List.take_succ_eq_append_getElem (by simp;omega),List.take_set_of_le (Nat.le_refl _)]
   simp [Nat.add_assoc,Nat.add_comm 1]
  rw [e] at h2
  show ((W.alloc (.cells Z.toArray t)).setCell ⟨W.heap.size,o,none⟩ v).setCells W.heap.size (o+1) vs=_
  rw [e0,h2,List.length_cons]
theorem run_store_new {P:Program} (W:World) (t:TypeId) (Z C:List Value) (hz:Z.length=C.length) (h1:∀ v∈C,v.oneCell'=true) :
  (storeCells ⟨W.heap.size,0,none⟩ C).run P (W.alloc (.cells Z.toArray t))=.ok () (W.alloc (.cells C.toArray t)):=by
 have hb:=Blk.new W t Z.toArray
 have:=run_storeCells_cells (P:=P) W.heap.size 0 C 0 (W.alloc (.cells Z.toArray t)) (fun j hj=>by
  have hj':0+0+j<Z.length:=by omega
  rw [hb.cell (0+0+j)]
  simp;omega) (fun j hj=>by have:=hb.frozen (0+j);exact this) h1
 rw [setCells_alloc W t C 0 Z (by omega)] at this
 simp only [Nat.zero_add,List.take_zero,List.nil_append,← hz,List.drop_length,List.append_nil] at this
 exact this

theorem Blk.new2 (w:World) (o:Obj) (t:TypeId) (cs:Array Value):Blk ((w.alloc o).alloc (.cells cs t)) (w.heap.size+1) t cs:=by simpa using Blk.new (w.alloc o) t cs
noncomputable def eqB {α:Type} (a b:α):Bool:=@decide (a=b) (Classical.propDecidable _)
theorem eqB_true {α:Type} {a b:α} (h:a=b):eqB a b=true:=by unfold eqB;exact @decide_eq_true _ (Classical.propDecidable _) h
theorem eqB_false {α:Type} {a b:α} (h:a ≠ b):eqB a b=false:=by unfold eqB;exact @decide_eq_false _ (Classical.propDecidable _) h
theorem eqB_iff {α:Type} {a b:α}:eqB a b=true↔a=b:=by unfold eqB;exact @decide_eq_true_iff _ (Classical.propDecidable _)

/-! ### Schemas -/
inductive DSch where
 | mk (kind:Int) (words:List Str) (parts:List DSch)
namespace DSch
def kind:DSch→Int
 | mk k _ _=>k
def words:DSch→List Str
 | mk _ ws _=>ws
def parts:DSch→List DSch
 | mk _ _ ps=>ps
mutual
def depth:DSch→Nat
 | mk _ _ ps=>depths ps+1
def depths:List DSch→Nat
 | []=>0
 | p::ps=>max p.depth (depths ps)
end
mutual
def weight:DSch→Nat
 | mk _ ws ps=>1+ws.length+weights ps
def weights:List DSch→Nat
 | []=>0
 | p::ps=>p.weight+weights ps
end
theorem weight_eq (s:DSch):s.weight=1+s.words.length+weights s.parts:=by obtain ⟨k,ws,ps⟩:=s;simp only [weight,words,parts]
theorem depth_eq (s:DSch):s.depth=depths s.parts+1:=by obtain ⟨k,ws,ps⟩:=s;simp only [depth,parts]
theorem depths_take (l:List DSch) (k:Nat) (h:k<l.length):depths (l.take (k+1))=max (depths (l.take k)) (l[k]).depth:=by
 have app:∀ (a:List DSch) (p:DSch),depths (a++[p])=max (depths a) p.depth:=by
  intro a p
  induction a with
  | nil=>simp [depths]
  | cons x a ih=>simp only [List.cons_append,depths,ih];omega
 rw [List.take_succ_eq_append_getElem h,app]
theorem depths_le (l:List DSch) (k:Nat):depths (l.take k)≤depths l:=by
 induction l generalizing k with
 | nil=>simp [depths]
 | cons x l ih =>
  cases k with
  | zero=>simp [depths]
  | succ k=>have:=ih k;simp only [List.take_succ_cons,depths];omega
theorem depth_part {s p:DSch} (h:p∈s.parts):p.depth<s.depth:=by
 obtain ⟨k,ws,ps⟩:=s
 have key:∀ (l:List DSch),p∈l→p.depth≤depths l:=by
  intro l
  induction l with
  | nil=>intro h;cases h
  | cons x l ih =>
   intro h
   simp only [depths]
   rcases List.mem_cons.1 h with rfl | h
   ·exact Nat.le_max_left _ _
   ·exact Nat.le_trans (ih h) (Nat.le_max_right _ _)
 have:=key ps h
 simp only [depth]
 omega
theorem weight_part {s p:DSch} (h:p∈s.parts):p.weight<s.weight:=by
 obtain ⟨k,ws,ps⟩:=s
 have key:∀ (l:List DSch),p∈l→p.weight≤weights l:=by
  intro l
  induction l with
  | nil=>intro h;cases h
  | cons x l ih =>
   intro h
   simp only [weights]
   rcases List.mem_cons.1 h with rfl | h
   ·omega
   ·have:=ih h;omega
 have:=key ps h
 simp only [weight]
 omega
theorem depth_pos (s:DSch):0<s.depth:=by obtain ⟨k,ws,ps⟩:=s;simp [depth]
theorem depth_weight (k:Nat):∀ s:DSch,s.depth≤k→s.depth≤s.weight:=by
 induction k with
 | zero=>intro s h;have:=s.depth_pos;omega
 | succ k ih =>
  intro s h
  obtain ⟨kd,ws,ps⟩:=s
  simp only [depth,weight] at h ⊢
  have key:∀ (l:List DSch),depths l≤k→depths l≤weights l:=by
   intro l
   induction l with
   | nil=>intro _;exact Nat.le_refl _
   | cons x l ih2 =>
    intro hl
    simp only [depths,weights] at hl ⊢
    have h1:=ih x (by omega)
    have h2:=ih2 (by omega)
    omega
  have:=key ps (by omega)
  omega
theorem parts_weight (s:DSch):s.parts.length≤s.weight:=by
 obtain ⟨k,ws,ps⟩:=s
 have key:∀ (l:List DSch),l.length≤weights l:=by
  intro l
  induction l with
  | nil=>simp
  | cons x l ih =>
   have:0<x.weight:=by obtain ⟨a,b,c⟩:=x;simp only [weight];omega
   simp only [List.length_cons,weights]
   omega
 have:=key ps
 simp only [parts,weight]
 omega
theorem words_weight (s:DSch):s.words.length≤s.weight:=by obtain ⟨k,ws,ps⟩:=s;simp only [words,weight];omega
end DSch

inductive IsSch (w:World) (F:Nat→Prop):DSch→List Value→Prop where
 | mk {kind:Int} {words:List Str} {parts:List DSch} {Aw Ap:Option Addr} {cw cp b o:Nat} {C:Nat→List Value} (hk:I64 kind)
  (hw:RF w F 1 Aw words.length (words.map sv)) (hs:∀ s∈words,s.length≤maxLen) (hcw:words.length≤cw) (hmw:words.length≤140737488351232)
  (hA:0<parts.length→Ap=some ⟨b,o,none⟩∧F b) (hC:∀ (i:Nat) (p:DSch),parts[i]? = some p→(C i).length=3∧w.rangeAt b (o+i * 3) (C i)) (hP:∀ (i:Nat) (p:DSch),parts[i]? = some p→IsSch w F p (C i))
  (hcp:parts.length≤cp) (hmp:parts.length≤140737488351232):IsSch w F (.mk kind words parts) [.int .i64 kind,.slice Aw words.length cw,.slice Ap parts.length cp]

theorem IsSch.keep {w w':World} {F:Nat→Prop} {s:DSch} {cs:List Value} (h:IsSch w F s cs) (hk:∀ q:Addr,F q.block→w'.cell? q=w.cell? q):IsSch w' F s cs:=by
 induction h with
 | mk h1 h2 h3 h4 h5 hA hC _ h6 h7 ih =>
  refine .mk h1 (h2.keep hk) h3 h4 h5 hA (fun i p hp=>⟨(hC i p hp).1,fun j v hv=>?_⟩) ih h6 h7
  have hF:=(hA (by have:=(List.getElem?_eq_some_iff.1 hp).1;omega)).2
  exact (hk _ hF).trans ((hC i p hp).2 j v hv)
theorem IsSch.mono {w:World} {F G:Nat→Prop} {s:DSch} {cs:List Value} (h:IsSch w F s cs) (hg:∀ k,F k→G k):IsSch w G s cs:=by
 induction h with
 | mk h1 h2 h3 h4 h5 hA hC _ h6 h7 ih=>exact .mk h1 (h2.mono hg) h3 h4 h5 (fun h=>⟨(hA h).1,hg _ (hA h).2⟩) hC ih h6 h7
theorem IsSch.bel {w w':World} {B:Nat} {s:DSch} {cs:List Value} (h:IsSch w (·<B) s cs) (hb:Below B w w'):IsSch w' (·<B) s cs:=h.keep fun _ hq=>hb.cell hq
theorem IsSch.more {w w':World} {s:DSch} {cs:List Value} (h:IsSch w (·<w.heap.size) s cs) (hb:Below w.heap.size w w'):IsSch w' (·<w'.heap.size) s cs:=(h.bel hb).mono fun _ hk=>Nat.lt_of_lt_of_le hk hb.size
theorem IsSch.length {w:World} {F:Nat→Prop} {s:DSch} {cs:List Value} (h:IsSch w F s cs):cs.length=3:=by cases h;rfl
theorem IsSch.one {w:World} {F:Nat→Prop} {s:DSch} {cs:List Value} (h:IsSch w F s cs):∀ v∈cs,v.oneCell'=true:=by cases h;simp [Value.oneCell']

theorem IsSch.kind_ {w:World} {F:Nat→Prop} {s:DSch} {cs:List Value} (h:IsSch w F s cs):cs[0]? = some (.int .i64 s.kind)∧I64 s.kind:=by
 cases h with
 | mk h1 h2 h3 h4 h5 hA hC hP h6 h7=>exact ⟨rfl,h1⟩
theorem IsSch.words_ {w:World} {F:Nat→Prop} {s:DSch} {cs:List Value} (h:IsSch w F s cs):∃ A c,cs[1]? = some (.slice A s.words.length c)∧RF w F 1 A s.words.length (s.words.map sv)∧(∀ x∈s.words,x.length≤maxLen)∧s.words.length≤c∧s.words.length≤140737488351232:=by
 cases h with
 | mk h1 h2 h3 h4 h5 hA hC hP h6 h7=>exact ⟨_,_,rfl,h2,h3,h4,h5⟩
theorem IsSch.parts_ {w:World} {F:Nat→Prop} {s:DSch} {cs:List Value} (h:IsSch w F s cs):∃ A c,cs[2]? = some (.slice A s.parts.length c)∧s.parts.length≤c∧s.parts.length≤140737488351232 ∧
  (0<s.parts.length→∃ b o,A=some ⟨b,o,none⟩∧F b∧∀ (i:Nat) (p:DSch),s.parts[i]? = some p→∃ C:List Value,C.length=3∧w.rangeAt b (o+i * 3) C∧IsSch w F p C):=by
 cases h with
 | mk h1 h2 h3 h4 h5 hA hC hP h6 h7=>exact ⟨_,_,rfl,h6,h7,fun h0=>⟨_,_,(hA h0).1,(hA h0).2,fun i p hp=>⟨_,(hC i p hp).1,(hC i p hp).2,hP i p hp⟩⟩⟩

theorem IsSch.partsF {w:World} {F:Nat→Prop} {s:DSch} {cs:List Value} (h:IsSch w F s cs):∃ A c,∃ C:Nat→List Value,cs[2]? = some (.slice A s.parts.length c)∧s.parts.length≤c∧s.parts.length≤140737488351232∧(∀ (i:Nat) (p:DSch),s.parts[i]? = some p→IsSch w F p (C i)) ∧
  (0<s.parts.length→∃ b o,A=some ⟨b,o,none⟩∧F b∧∀ i,i<s.parts.length→(C i).length=3∧w.rangeAt b (o+i * 3) (C i)):=by
 cases h with
 | mk h1 h2 h3 h4 h5 hA hC hP h6 h7=>exact ⟨_,_,_,rfl,h6,h7,hP,fun h0=>⟨_,_,(hA h0).1,(hA h0).2,fun i hi=>hC i _ (List.getElem?_eq_getElem hi)⟩⟩
theorem DSch.ext_iff' (a b:DSch):a=b↔a.kind=b.kind∧a.words=b.words∧a.parts=b.parts:=by
 obtain ⟨k,ws,ps⟩:=a
 obtain ⟨k',ws',ps'⟩:=b
 simp [DSch.kind,DSch.words,DSch.parts]
theorem eqB_list {α:Type} (d:α) (a b:List α):(decide (a.length=b.length) && (List.range a.length).all fun i=>eqB (a.getD i d) (b.getD i d))=eqB a b:=by
 by_cases h:a=b
 ·subst h
  rw [eqB_true rfl,decide_eq_true rfl,Bool.true_and]
  exact List.all_eq_true.2 fun i _=>eqB_true rfl
 ·rw [eqB_false h,Bool.and_eq_false_iff]
  by_cases hl:a.length=b.length
  ·right
   rw [List.all_eq_false]
   apply Classical.byContradiction
   intro hno
   refine h (List.ext_getElem hl fun i h1 h2=>?_)
   apply Classical.byContradiction
   intro hne
   refine hno ⟨i,List.mem_range.2 h1,?_⟩
   have e1:a.getD i d=a[i]:=by simp [List.getD,h1]
   have e2:b.getD i d=b[i]:=by simp [List.getD,h2]
   rw [e1,e2,eqB_false hne]
   simp
  ·exact .inl (decide_eq_false hl)

/-! ### Values -/
inductive DVal where
 | mk (kind n:Int) (s:Str) (names:List Str) (ids:List Nat) (parts:List DVal)
namespace DVal
def kind:DVal→Int
 | mk k _ _ _ _ _=>k
def n:DVal→Int
 | mk _ n _ _ _ _=>n
def s:DVal→Str
 | mk _ _ s _ _ _=>s
def names:DVal→List Str
 | mk _ _ _ l _ _=>l
def ids:DVal→List Nat
 | mk _ _ _ _ l _=>l
def parts:DVal→List DVal
 | mk _ _ _ _ _ ps=>ps
mutual
def depth:DVal→Nat
 | mk _ _ _ _ _ ps=>depths ps+1
def depths:List DVal→Nat
 | []=>0
 | p::ps=>max p.depth (depths ps)
end
mutual
def weight:DVal→Nat
 | mk _ _ _ l m ps=>1+l.length+m.length+weights ps
def weights:List DVal→Nat
 | []=>0
 | p::ps=>p.weight+weights ps
end
theorem weight_eq (v:DVal):v.weight=1+v.names.length+v.ids.length+weights v.parts:=by obtain ⟨_,_,_,_,_,_⟩:=v;simp only [weight,names,ids,parts]
theorem depth_eq (v:DVal):v.depth=depths v.parts+1:=by obtain ⟨_,_,_,_,_,_⟩:=v;simp only [depth,parts]
theorem depths_take (l:List DVal) (k:Nat) (h:k<l.length):depths (l.take (k+1))=max (depths (l.take k)) (l[k]).depth:=by
 have app:∀ (a:List DVal) (p:DVal),depths (a++[p])=max (depths a) p.depth:=by
  intro a p
  induction a with
  | nil=>simp [depths]
  | cons x a ih=>simp only [List.cons_append,depths,ih];omega
 rw [List.take_succ_eq_append_getElem h,app]
theorem depths_le (l:List DVal) (k:Nat):depths (l.take k)≤depths l:=by
 induction l generalizing k with
 | nil=>simp [depths]
 | cons x l ih =>
  cases k with
  | zero=>simp [depths]
  | succ k=>have:=ih k;simp only [List.take_succ_cons,depths];omega
theorem depth_part {v p:DVal} (h:p∈v.parts):p.depth<v.depth:=by
 obtain ⟨_,_,_,_,_,ps⟩:=v
 have key:∀ (l:List DVal),p∈l→p.depth≤depths l:=by
  intro l
  induction l with
  | nil=>intro h;cases h
  | cons x l ih =>
   intro h
   simp only [depths]
   rcases List.mem_cons.1 h with rfl | h
   ·exact Nat.le_max_left _ _
   ·exact Nat.le_trans (ih h) (Nat.le_max_right _ _)
 have:=key ps h
 simp only [depth]
 omega
theorem weight_part {v p:DVal} (h:p∈v.parts):p.weight<v.weight:=by
 obtain ⟨_,_,_,_,_,ps⟩:=v
 have key:∀ (l:List DVal),p∈l→p.weight≤weights l:=by
  intro l
  induction l with
  | nil=>intro h;cases h
  | cons x l ih =>
   intro h
   simp only [weights]
   rcases List.mem_cons.1 h with rfl | h
   ·omega
   ·have:=ih h;omega
 have:=key ps h
 simp only [weight]
 omega
theorem depth_pos (v:DVal):0<v.depth:=by obtain ⟨_,_,_,_,_,ps⟩:=v;simp [depth]
theorem depth_weight (k:Nat):∀ v:DVal,v.depth≤k→v.depth≤v.weight:=by
 induction k with
 | zero=>intro v h;have:=v.depth_pos;omega
 | succ k ih =>
  intro v h
  obtain ⟨_,_,_,_,_,ps⟩:=v
  simp only [depth,weight] at h ⊢
  have key:∀ (l:List DVal),depths l≤k→depths l≤weights l:=by
   intro l
   induction l with
   | nil=>intro _;exact Nat.le_refl _
   | cons x l ih2 =>
    intro hl
    simp only [depths,weights] at hl ⊢
    have h1:=ih x (by omega)
    have h2:=ih2 (by omega)
    omega
  have:=key ps (by omega)
  omega
end DVal

inductive IsVal (w:World) (F:Nat→Prop):DVal→List Value→Prop where
 | mk {kind n:Int} {s:Str} {names:List Str} {ids:List Nat} {parts:List DVal} {An Ai Ap:Option Addr} {cn ci cp b o:Nat} {C:Nat→List Value} (hk:I64 kind) (hn:I64 n) (hs:s.length≤maxLen)
  (hnm:RF w F 1 An names.length (names.map sv)) (hns:∀ s∈names,s.length≤maxLen) (hcn:names.length≤cn) (hmn:names.length≤140737488351232)
  (hid:RF w F 1 Ai ids.length (ids.map uv)) (hiu:∀ i∈ids,U64 (i:Int)) (hci:ids.length≤ci) (hmi:ids.length≤140737488351232)
  (hA:0<parts.length→Ap=some ⟨b,o,none⟩∧F b) (hC:∀ (i:Nat) (p:DVal),parts[i]? = some p→(C i).length=6∧w.rangeAt b (o+i * 6) (C i)) (hP:∀ (i:Nat) (p:DVal),parts[i]? = some p→IsVal w F p (C i))
  (hcp:parts.length≤cp) (hmp:parts.length≤140737488351232):IsVal w F (.mk kind n s names ids parts) [.int .i64 kind,.int .i64 n,sv s,.slice An names.length cn,.slice Ai ids.length ci,.slice Ap parts.length cp]

theorem IsVal.keep {w w':World} {F:Nat→Prop} {v:DVal} {cs:List Value} (h:IsVal w F v cs) (hk:∀ q:Addr,F q.block→w'.cell? q=w.cell? q):IsVal w' F v cs:=by
 induction h with
 | mk h1 h2 h3 h4 h5 h6 h7 h8 h9 h10 h11 hA hC _ h12 h13 ih =>
  refine .mk h1 h2 h3 (h4.keep hk) h5 h6 h7 (h8.keep hk) h9 h10 h11 hA (fun i p hp=>⟨(hC i p hp).1,fun j v hv=>?_⟩) ih h12 h13
  have hF:=(hA (by have:=(List.getElem?_eq_some_iff.1 hp).1;omega)).2
  exact (hk _ hF).trans ((hC i p hp).2 j v hv)
theorem IsVal.mono {w:World} {F G:Nat→Prop} {v:DVal} {cs:List Value} (h:IsVal w F v cs) (hg:∀ k,F k→G k):IsVal w G v cs:=by
 induction h with
 | mk h1 h2 h3 h4 h5 h6 h7 h8 h9 h10 h11 hA hC _ h12 h13 ih=>exact .mk h1 h2 h3 (h4.mono hg) h5 h6 h7 (h8.mono hg) h9 h10 h11 (fun h=>⟨(hA h).1,hg _ (hA h).2⟩) hC ih h12 h13
theorem IsVal.bel {w w':World} {B:Nat} {v:DVal} {cs:List Value} (h:IsVal w (·<B) v cs) (hb:Below B w w'):IsVal w' (·<B) v cs:=h.keep fun _ hq=>hb.cell hq
theorem IsVal.more {w w':World} {v:DVal} {cs:List Value} (h:IsVal w (·<w.heap.size) v cs) (hb:Below w.heap.size w w'):IsVal w' (·<w'.heap.size) v cs:=(h.bel hb).mono fun _ hk=>Nat.lt_of_lt_of_le hk hb.size
theorem IsVal.length {w:World} {F:Nat→Prop} {v:DVal} {cs:List Value} (h:IsVal w F v cs):cs.length=6:=by cases h;rfl
theorem IsVal.kind_ {w:World} {F:Nat→Prop} {v:DVal} {cs:List Value} (h:IsVal w F v cs):cs[0]? = some (.int .i64 v.kind)∧I64 v.kind:=by
 cases h with
 | mk h1 h2 h3 h4 h5 h6 h7 h8 h9 h10 h11 hA hC hP h12 h13=>exact ⟨rfl,h1⟩
theorem IsVal.n_ {w:World} {F:Nat→Prop} {v:DVal} {cs:List Value} (h:IsVal w F v cs):cs[1]? = some (.int .i64 v.n)∧I64 v.n:=by
 cases h with
 | mk h1 h2 h3 h4 h5 h6 h7 h8 h9 h10 h11 hA hC hP h12 h13=>exact ⟨rfl,h2⟩
theorem IsVal.s_ {w:World} {F:Nat→Prop} {v:DVal} {cs:List Value} (h:IsVal w F v cs):cs[2]? = some (sv v.s)∧v.s.length≤maxLen:=by
 cases h with
 | mk h1 h2 h3 h4 h5 h6 h7 h8 h9 h10 h11 hA hC hP h12 h13=>exact ⟨rfl,h3⟩
theorem IsVal.names_ {w:World} {F:Nat→Prop} {v:DVal} {cs:List Value} (h:IsVal w F v cs):∃ A c,cs[3]? = some (.slice A v.names.length c)∧RF w F 1 A v.names.length (v.names.map sv)∧(∀ x∈v.names,x.length≤maxLen)∧v.names.length≤c∧v.names.length≤140737488351232:=by
 cases h with
 | mk h1 h2 h3 h4 h5 h6 h7 h8 h9 h10 h11 hA hC hP h12 h13=>exact ⟨_,_,rfl,h4,h5,h6,h7⟩
theorem IsVal.ids_ {w:World} {F:Nat→Prop} {v:DVal} {cs:List Value} (h:IsVal w F v cs):∃ A c,cs[4]? = some (.slice A v.ids.length c)∧RF w F 1 A v.ids.length (v.ids.map uv)∧(∀ x∈v.ids,U64 (x:Int))∧v.ids.length≤c∧v.ids.length≤140737488351232:=by
 cases h with
 | mk h1 h2 h3 h4 h5 h6 h7 h8 h9 h10 h11 hA hC hP h12 h13=>exact ⟨_,_,rfl,h8,h9,h10,h11⟩
theorem IsVal.parts_ {w:World} {F:Nat→Prop} {v:DVal} {cs:List Value} (h:IsVal w F v cs):∃ A c,cs[5]? = some (.slice A v.parts.length c)∧v.parts.length≤c∧v.parts.length≤140737488351232 ∧
  (0<v.parts.length→∃ b o,A=some ⟨b,o,none⟩∧F b∧∀ (i:Nat) (p:DVal),v.parts[i]? = some p→∃ C:List Value,C.length=6∧w.rangeAt b (o+i * 6) C∧IsVal w F p C):=by
 cases h with
 | mk h1 h2 h3 h4 h5 h6 h7 h8 h9 h10 h11 hA hC hP h12 h13=>exact ⟨_,_,rfl,h12,h13,fun h0=>⟨_,_,(hA h0).1,(hA h0).2,fun i p hp=>⟨_,(hC i p hp).1,(hC i p hp).2,hP i p hp⟩⟩⟩

theorem IsVal.partsF {w:World} {F:Nat→Prop} {v:DVal} {cs:List Value} (h:IsVal w F v cs):∃ A c,∃ C:Nat→List Value,cs[5]? = some (.slice A v.parts.length c)∧v.parts.length≤c∧v.parts.length≤140737488351232∧(∀ (i:Nat) (p:DVal),v.parts[i]? = some p→IsVal w F p (C i)) ∧
  (0<v.parts.length→∃ b o,A=some ⟨b,o,none⟩∧F b∧∀ i,i<v.parts.length→(C i).length=6∧w.rangeAt b (o+i * 6) (C i)):=by
 cases h with
 | mk h1 h2 h3 h4 h5 h6 h7 h8 h9 h10 h11 hA hC hP h12 h13=>exact ⟨_,_,_,rfl,h12,h13,hP,fun h0=>⟨_,_,(hA h0).1,(hA h0).2,fun i hi=>hC i _ (List.getElem?_eq_getElem hi)⟩⟩
theorem DVal.ext_iff' (a b:DVal):a=b↔a.kind=b.kind∧a.n=b.n∧a.s=b.s∧a.names=b.names∧a.ids=b.ids∧a.parts=b.parts:=by
 obtain ⟨k,n,s,l,m,ps⟩:=a
 obtain ⟨k',n',s',l',m',ps'⟩:=b
 simp [DVal.kind,DVal.n,DVal.s,DVal.names,DVal.ids,DVal.parts]

/-! ### Paths -/
end Go.Proofs.YtogbklnkpjjkoaaGreatDoor
namespace Go.Proofs.YtogbklnkpjjkoaaGreatDoor
open Go.RowKit

section
variable {P : Program}
end

theorem blk_setCells (g:Nat) (t:TypeId):∀ (vs:List Value) (o:Nat) (w:World) (L:List Value),Blk w g t L.toArray→o+vs.length≤L.length→Blk (w.setCells g o vs) g t (L.take o++vs++L.drop (o+vs.length)).toArray:=by
 intro vs
 induction vs with
 | nil=>intro o w L h ho;simpa [World.setCells] using h
 | cons v vs ih =>
  intro o w L h ho
  simp only [List.length_cons] at ho
  have h1:=h.set_ o v
  simp only [List.setIfInBounds_toArray] at h1
  have:=ih (o+1) (w.setCell ⟨g,o,none⟩ v) (L.set o v) h1 (by simp;omega)
  have e:(L.set o v).take (o+1)++vs++(L.set o v).drop (o+1+vs.length)=L.take o++v::vs++L.drop (o+(vs.length+1)):=by
   rw [List.drop_set_of_lt (by omega),List.take_succ_eq_append_getElem (by simp;omega),List.take_set_of_le (Nat.le_refl _)]
   simp [Nat.add_assoc,Nat.add_comm 1]
  rw [e] at this
  simpa [World.setCells] using this
theorem fr_setCells (g:Nat):∀ (vs:List Value) (o:Nat) (w:World),Fr (fun k=>k=g) w (w.setCells g o vs):=by
 intro vs
 induction vs with
 | nil=>intro o w;exact Fr.refl _ _
 | cons v vs ih =>
  intro o w
  exact ((Fr.refl (fun k=>k=g) w).setCell (p:=⟨g,o,none⟩) (.inl rfl) v).trans ((ih (o+1) (w.setCell ⟨g,o,none⟩ v)).mono fun _ _ h=>.inl h)
section
variable {P : Program} {ops : Array Oper} {rest : List Oper} {o : Oper} {a : Act} {w : World} {Q : Exit → Act → World → Prop}
theorem wpList_store_blk (hgd:o.guard=none) (ty:TypeId) (x y:Operand) (ho:o.op=.store ty x y) (g:Nat) (hx:a.eval x=.pointer (some ⟨g,0,none⟩)) (cs:Array Value) (hy:a.eval y=.agg cs)
  (t:TypeId) (cs0:Array Value) (hb:Blk w g t cs0) (hsz:cs0.size=cs.size) (hi:(P.info? ty).map (·.size)=some cs.size) (h1:∀ v∈cs.toList,v.oneCell'=true)
  (h:∀ w',Blk w' g t cs→Fr (fun k=>k=g) w w'→wpList P ops Q rest (a.put o.dst undef) w'):wpList P ops Q (o::rest) a w:=by
 refine wpList_store_mid hgd ty x y ho g 0 cs hx hy (fun j hj=>⟨?_,hb.frozen _⟩) hi (Array.all_eq_true_iff_forall_mem.2 fun v hv=>h1 v (by simpa using hv)) (h _ ?_ (fr_setCells g _ _ _))
 ·rw [hb.cell,Array.getElem?_eq_getElem (by omega)];rfl
 ·have:=blk_setCells g t cs.toList 0 w cs0.toList (by simpa using hb) (by simp;omega)
  have e:cs0.toList.take 0++cs.toList++cs0.toList.drop (0+cs.toList.length)=cs.toList:=by
   rw [List.drop_eq_nil_of_le (by simp;omega)]
   simp
  rw [e] at this
  simpa using this
theorem wpList_load_blk (hgd:o.guard=none) (ty:TypeId) (x:Operand) (ho:o.op=.load ty x) (g:Nat) (hx:a.eval x=.pointer (some ⟨g,0,none⟩)) (t:TypeId) (cs:Array Value) (hb:Blk w g t cs) (d:TypeDesc)
  (hu:P.underlying ty=some d) (hd:(match d with | .struct _ | .array _ _=>true | _=>false)=true) (hi:(P.info? ty).map (·.size)=some cs.size) (h:wpList P ops Q rest (a.put o.dst (.agg cs)) w):wpList P ops Q (o::rest) a w :=
 wpList_load_row hgd ty x ho g hx t cs (0,0) d hb hu hd hi h
end
theorem foldl_zip:∀ (vs:List Value) (n:Nat) (Z:List Value),n+vs.length≤Z.length →
  List.foldl (fun (cs:Array Value) (x:Value × Nat)=>cs.setIfInBounds x.2 x.1) Z.toArray (vs.zipIdx n)=(Z.take n++vs++Z.drop (n+vs.length)).toArray:=by
 intro vs
 induction vs with
 | nil=>intro n Z h;simp
 | cons v vs ih =>
  intro n Z h
  simp only [List.length_cons] at h
  rw [List.zipIdx_cons,List.foldl_cons]
  simp only [List.setIfInBounds_toArray]
  rw [ih (n+1) (Z.set n v) (by simp;omega)]
  congr 1
  rw [List.take_set,List.drop_set]
  have e1:(Z.take (n+1)).set n v=Z.take n++[v]:=by
   rw [List.take_succ_eq_append_getElem (by omega),List.set_append_right _ _ (by simp;omega)]
   simp [Nat.min_eq_left (show n≤Z.length by omega)]
  rw [e1,if_pos (by omega),show n+1+vs.length=n+(v::vs).length from by simp;omega]
  simp
theorem foldl_zip_all (vs:List Value) (Z:Array Value) (h:Z.size=vs.length) :
  List.foldl (fun (cs:Array Value) (x:Value × Nat)=>cs.setIfInBounds x.2 x.1) Z vs.zipIdx=vs.toArray:=by
 have:=foldl_zip vs 0 Z.toList (by simp [h])
 have e:Z.toList.drop vs.length=[]:=List.drop_eq_nil_of_le (by simp [h])
 simpa [e] using this
end Go.Proofs.YtogbklnkpjjkoaaGreatDoor
namespace Go.Proofs.YtogbklnkpjjkoaaGreatDoor
open Go.RowKit Go.ChangeShapes Go.WideShapes Go.ChangeAt

theorem i64_wf {n:Int} (h:I64 n):-9223372036854775808≤n∧n≤9223372036854775807:=bounds_i64 h
def roomS:Nat→DSch→Int→Int
 | 0,_,_=>-1
 | k+1,s,n =>
  if 0≤n - 1 - s.words.length∧s.words.any (fun x=>decide (100<x.length)) then -1
  else s.parts.foldl (fun m p=>if 0≤m then roomS k p m else m) (n - 1 - s.words.length)
theorem foldRoom_neg (k:Nat):∀ (l:List DSch) (m:Int),m<0→l.foldl (fun m p=>if 0≤m then roomS k p m else m) m=m
 | [],_,_=>rfl
 | p::l,m,h=>by rw [List.foldl_cons,if_neg (by omega)];exact foldRoom_neg k l m h
def FineS:Nat→DSch→Prop
 | 0,_=>False
 | k+1,s=>(∀ x∈s.words,x.length≤100)∧∀ p∈s.parts,FineS k p
theorem room_spec:∀ (k:Nat) (s:DSch) (n:Int),0≤roomS k s n→roomS k s n=n - s.weight∧FineS k s
 | 0,s,n,h=>by simp [roomS] at h
 | k+1,s,n,h=>by
  have hwt:=DSch.weight_eq s
  unfold roomS at h ⊢
  by_cases hb:0≤n - 1 - (s.words.length:Int)∧s.words.any (fun x=>decide (100<x.length))=true
  ·rw [if_pos hb] at h;omega
  ·rw [if_neg hb] at h ⊢
   have hn:0≤n - 1 - (s.words.length:Int):=by
    rcases Int.lt_or_le (n - 1 - (s.words.length:Int)) 0 with hx | hx
    ·rw [foldRoom_neg k s.parts _ hx] at h;exact h
    ·exact hx
   have hw:∀ x∈s.words,x.length≤100:=by
    intro x hx
    rcases Nat.lt_or_ge 100 x.length with hgt | hle
    ·exact absurd ⟨hn,List.any_eq_true.2 ⟨x,hx,by simpa using hgt⟩⟩ hb
    ·exact hle
   have key:∀ (l:List DSch) (m:Int),0≤l.foldl (fun m p=>if 0≤m then roomS k p m else m) m →
     l.foldl (fun m p=>if 0≤m then roomS k p m else m) m=m - DSch.weights l∧∀ p∈l,FineS k p:=by
    intro l
    induction l with
    | nil=>intro m _;exact ⟨by simp [DSch.weights],fun p hp=>by cases hp⟩
    | cons p l ih =>
     intro m hm
     rw [List.foldl_cons] at hm ⊢
     have h0:0≤m:=by
      rcases Int.lt_or_le m 0 with hx | hx
      ·rw [if_neg (by omega),foldRoom_neg k l m hx] at hm;exact hm
      ·exact hx
     rw [if_pos h0] at hm ⊢
     have h1:0≤roomS k p m:=by
      rcases Int.lt_or_le (roomS k p m) 0 with hx | hx
      ·rw [foldRoom_neg k l _ hx] at hm;exact hm
      ·exact hx
     obtain ⟨e1,f1⟩:=room_spec k p m h1
     obtain ⟨e2,f2⟩:=ih _ hm
     refine ⟨by rw [e2,e1];simp only [DSch.weights];omega,fun q hq=>?_⟩
     rcases List.mem_cons.1 hq with rfl | hq
     ·exact f1
     ·exact f2 q hq
   obtain ⟨e,f⟩:=key s.parts _ h
   refine ⟨by rw [e];omega,?_⟩
   exact ⟨hw,f⟩
theorem room_le:∀ (k:Nat) (s:DSch) (n:Int),-1≤n→roomS k s n≤n∧(roomS k s n≤-1∨0≤roomS k s n)
 | 0,s,n,h=>by simp [roomS];omega
 | k+1,s,n,h=>by
  unfold roomS
  split
  ·omega
  ·have key:∀ (l:List DSch) (m:Int),l.foldl (fun m p=>if 0≤m then roomS k p m else m) m≤m:=by
    intro l
    induction l with
    | nil=>intro m;exact Int.le_refl _
    | cons p l ih =>
     intro m
     rw [List.foldl_cons]
     refine Int.le_trans (ih _) ?_
     split
     ·exact (room_le k p m (by omega)).1
     ·exact Int.le_refl _
   have:=key s.parts (n - 1 - s.words.length)
   omega
end Go.Proofs.YtogbklnkpjjkoaaGreatDoor
namespace Go.Proofs.YtogbklnkpjjkoaaGreatDoor
open Go.RowKit

theorem info_sch:(Tryz.prog.info? 25).map (·.size)=some 3:=by kernel_rfl

set_option maxHeartbeats 1000000 in
set_option maxRecDepth 20000 in
theorem roomS_calls (k:Nat):∀ (s:DSch) (n:Int) (cs:List Value) (w:World),IsSch w (·<w.heap.size) s cs→k≤1000→0≤n→n≤1000 →
  Calls Tryz.prog 31 #[.agg cs.toArray,.int .i64 n,.int .i64 k] w (fun e w'=>-140737488351235≤roomS k s n∧Gives (.int .i64 (roomS k s n)) w e w'):=by
 induction k with
 | zero =>
  intro s n cs w hs hk hn hn2
  cases hs with
  | mk h1 h2 h3 h4 h5 hA hC hP h6 h7 =>
   rename_i kind words parts Aw Ap cw cp b o C
   clear h2 hA hC hP
   go_enter Tryz.func31,Tryz.ntmps31
   go_wp2
   go_ret
   exact ⟨by simp [roomS],ret_eq rfl,(Below.refl _ _).alloc (Nat.le_refl _) _⟩
 | succ k ih =>
  intro s n cs w hs hk hn hn2
  have HI:=hide ih
  clear ih
  cases hs with
  | mk h1 h2 h3 h4 h5 hA hC hP h6 h7 =>
   rename_i kind words parts Aw Ap cw cp b o C
   have HR:=hide h2
   have HA:=hide hA
   have HC:=hide hC
   have HP:=hide hP
   have HSP:Hid (roomS (k+1) (.mk kind words parts) n=if 0≤n - 1 - words.length∧words.any (fun x=>decide (100<x.length)) then -1 else parts.foldl (fun m p=>if 0≤m then roomS k p m else m) (n - 1 - words.length)):=hide rfl
   have hsz:=hide h3
   clear h2 hA hC hP h1 h3
   have hk1:(((k+1:Nat):Int) == 0)=false:=by simp;omega
   go_enter Tryz.func31,Tryz.ntmps31
   go_wp2_with fail
   go_loop [7] (fun i=>∃ j:Nat,i=.int .i64 j∧j≤words.length∧((0≤n - 1 - (words.length:Int))→∀ x∈words.take j,x.length≤100)) (fun i=>words.length - (intOf i).toNat)
   case atStart=>exact ⟨0,rfl,Nat.zero_le _,by simp⟩
   case round =>
    obtain ⟨j,rfl,hj,hsm⟩:=hrel
    have HSM:=hide hsm
    clear hsm
    by_cases hgo:j<words.length∧0≤n - 1 - (words.length:Int)
    ·obtain ⟨hlt,h0⟩:=hgo
     obtain ⟨b1,o1,rfl,hb1,hc1⟩:=HR.out.at_ hlt
     have hcell:(w.alloc (.cells #[.int .i64 kind,.slice (some ⟨b1,o1,none⟩) words.length cw,.slice Ap parts.length cp] 25)).cell? ⟨b1,o1+j,none⟩=some (sv words[j]):=by rw [World.cell?_alloc_lt _ _ _ hb1];exact hc1
     have hwl:words[j].length≤9223372036854775807:=hsz.out _ (List.getElem_mem _)
     have HT:Hid (∀ x∈words.take j,x.length≤100):=hide (HSM.out h0)
     clear hc1
     by_cases hbig:100<words[j].length
     ·have HB:Hid (words.any (fun x=>decide (100<x.length))=true):=hide (List.any_eq_true.2 ⟨_,List.getElem_mem hlt,by simpa using hbig⟩)
      generalize words[j]=x at *
      go_wp2
      go_ret
      exact ⟨by rw [HSP.out,if_pos ⟨h0,HB.out⟩];omega,ret_eq (by rw [HSP.out,if_pos ⟨h0,HB.out⟩];rfl),(Below.refl _ _).alloc (Nat.le_refl _) _⟩
     ·have HB:Hid (0≤n - 1 - (words.length:Int)→∀ x∈words.take (j+1),x.length≤100):=hide fun _ x hx=>by
       rw [List.take_succ_eq_append_getElem hlt] at hx
       rcases List.mem_append.1 hx with h | h
       ·exact HT.out x h
       ·rw [List.mem_singleton.1 h];omega
      generalize words[j]=x at *
      go_wp2_with fail
      exact ⟨⟨j+1,by go_num,by omega,HB.out⟩,by simp [intOf];omega⟩
    ·have HN:Hid (¬ (0≤n - 1 - (words.length:Int)∧words.any (fun x=>decide (100<x.length))=true)):=hide fun ⟨h0,h1⟩=>by
      obtain ⟨x,hx,hx2⟩:=List.any_eq_true.1 h1
      have:=HSM.out h0 x (by rw [List.take_of_length_le (by omega)];exact hx)
      simp at hx2
      omega
     have HE:Hid (roomS (k+1) (.mk kind words parts) n=parts.foldl (fun m p=>if 0≤m then roomS k p m else m) (n - 1 - words.length)):=hide (by rw [HSP.out,if_neg HN.out])
     clear HN HSM HSP
     have HK0:=hide (Blk.new w 25 #[.int .i64 kind,.slice Aw words.length cw,.slice Ap parts.length cp])
     have HW0:=hide ((Below.refl w.heap.size w).alloc (Nat.le_refl _) (.cells #[.int .i64 kind,.slice Aw words.length cw,.slice Ap parts.length cp] 25))
     have hlow:-140737488351235≤n - 1 - (words.length:Int):=by omega
     have hstart:n - 1 - (words.length:Int)≤1000:=by omega
     generalize hm0:n - 1 - (words.length:Int)=m0 at *
     have hgo':¬ (j<words.length∧0≤m0):=hgo
     clear hgo hm0
     go_wp2_with fail
     all_goals
      go_loopw [1,8] (fun nv iv wr=>∃ (i:Nat) (m:Int),nv=.int .i64 m∧iv=.int .i64 i∧i≤parts.length∧m≤1000∧-140737488351235≤m∧m=(parts.take i).foldl (fun m p=>if 0≤m then roomS k p m else m) m0∧Blk wr w.heap.size 25 #[.int .i64 kind,.slice Aw words.length cw,.slice Ap parts.length cp]∧Below w.heap.size w wr) (fun _ iv _=>parts.length - (intOf iv).toNat)
      case atStart=>exact ⟨0,m0,rfl,rfl,Nat.zero_le _,hstart,hlow,rfl,HK0.out,HW0.out⟩
      case round =>
       clear HK0 HW0
       obtain ⟨i,m,rfl,rfl,hi,hm1,hm2,hfold,hblk,hbel⟩:=hrel
       have HF:=hide hfold
       have GB:=hide hblk
       have GW:=hide hbel
       clear hfold hblk hbel
       have c1:wr.cell? ⟨w.heap.size,1,none⟩=some (.slice Aw words.length cw):=GB.out.cell 1
       have c2:wr.cell? ⟨w.heap.size,2,none⟩=some (.slice Ap parts.length cp):=GB.out.cell 2
       by_cases hgo:i<parts.length∧0≤m
       ·obtain ⟨hlt,h0⟩:=hgo
        obtain ⟨rfl,hb⟩:=HA.out (by omega)
        have hg:=List.getElem?_eq_getElem hlt
        obtain ⟨hl3,hr⟩:=HC.out i _ hg
        have HRW:Hid (wr.rangeAt b (o+i * 3) (C i)):=hide fun q v hv=>(GW.out.cell (p:=⟨b,o+i * 3+q,none⟩) hb).trans (hr q v hv)
        have HL3:=hide hl3
        have HPI:=hide ((HP.out i _ hg).more GW.out)
        have HRL:=hide (room_le k parts[i] m (by omega))
        have HFS:Hid ((parts.take (i+1)).foldl (fun m p=>if 0≤m then roomS k p m else m) m0=roomS k parts[i] m):=hide (by
         rw [List.take_succ_eq_append_getElem hlt,List.foldl_append,← HF.out,List.foldl_cons,List.foldl_nil,if_pos h0])
        clear hr hl3 hg
        generalize parts[i]=p at *
        generalize C i=cs at *
        go_wp2_with (first | (refine wpList_load_mid rfl 25 _ rfl b (o+i * 3) rfl cs _ HRW.out rfl rfl (by rw [HL3.out];exact info_sch) ?_) | fail)
        refine (HI.out p m cs _ HPI.out (by omega) h0 hm1).mono ?_
        rintro e w1 ⟨hlo,rfl,hb1⟩
        have hrl:=HRL.out
        generalize roomS k p m=m1 at *
        go_wp2_with fail
        exact ⟨⟨i+1,m1,rfl,by go_num,by omega,by omega,by omega,HFS.out.symm,GB.out.below hb1 GB.out.lt,GW.out.trans (hb1.mono GW.out.size)⟩,by simp [intOf];omega⟩
       ·have HX:Hid (roomS (k+1) (.mk kind words parts) n=m):=hide (by
         rw [HE.out,HF.out]
         rcases Nat.lt_or_ge i parts.length with hx | hx
         ·have hm:m<0:=by omega
          have e:parts.foldl (fun m p=>if 0≤m then roomS k p m else m) m0=(parts.drop i).foldl (fun m p=>if 0≤m then roomS k p m else m) m:=by
           rw [HF.out,← List.foldl_append,List.take_append_drop]
          rw [e,foldRoom_neg k _ _ hm,HF.out]
         ·rw [List.take_of_length_le hx])
        clear HF HE
        by_cases hlt:i<parts.length
        all_goals
         go_wp2
         go_ret
         exact ⟨by rw [HX.out];exact hm2,ret_eq (by rw [HX.out];rfl),GW.out⟩

set_option maxHeartbeats 400000 in
set_option maxRecDepth 20000 in
theorem greatS_calls (s:DSch) (cs:List Value) (w:World) (hs:IsSch w (·<w.heap.size) s cs) :
  Calls Tryz.prog 8 #[.agg cs.toArray] w (Gives (.bool (decide (roomS 12 s 300<0))) w):=by
 have HB:=hide (Blk.new w 25 cs.toArray)
 have HW:=hide ((Below.refl w.heap.size w).alloc (Nat.le_refl _) (.cells cs.toArray 25))
 have HS:=hide (hs.more HW.out)
 have hl:=hs.length
 have HC:=hide (roomS_calls 12 s 300 cs _ HS.out (by omega) (by omega) (by omega))
 have HL:=hide (show (Tryz.prog.info? 25).map (·.size)=some cs.toArray.size by rw [info_sch];simp [hl])
 clear hs hl
 go_enter Tryz.func8,Tryz.ntmps8
 go_wp2_with (first | (refine wpList_load_blk rfl 25 _ rfl _ rfl _ _ HB.out _ rfl rfl HL.out ?_) | fail)
 refine HC.out.mono ?_
 rintro e w1 ⟨hlo,rfl,hb1⟩
 have HW1:=hide (HW.out.trans (hb1.mono HW.out.size))
 clear hb1
 generalize roomS 12 s 300=m at *
 go_wp2
 go_ret
 exact ⟨ret_eq rfl,HW1.out⟩
end Go.Proofs.YtogbklnkpjjkoaaGreatDoor
namespace Go.Proofs.YtogbklnkpjjkoaaGreatDoor
open Go.ChangeShapes Go.WideShapes Go.ChangeAt Go.RowKit Go.Deep Go.Joins
section
variable {H : Type} {enc : TypeId × Value → H} {P : Program} {w : World}

theorem sv_of (s:ByteArray):Value.string s=sv s.data.toList:=by
 unfold sv strB
 cases s with
 | mk d=>simp
theorem open_rows_sz {α:Type} {t e:TypeId} {size bytes:Nat} (ht:P.underlying t=some (.slice e)) (hc:P.cellsOf e=size) (hs0:0<size) (hby:P.bytesOf e=bytes) (hb0:0<bytes) (R:Nat→Nat→α→Prop)
  {fuel:Nat} {cs:List Value} {x:DataW H × List MemPlace}
  (elem:∀ (fuel:Nat) (cs:List Value) (y:DataW H × List MemPlace) (b o:Nat),SizeOf.sizeOf y.1<SizeOf.sizeOf x.1→b<w.heap.size→DataW.trod enc P w 0 (fun _=>true) true fuel e cs=some y→Sized P e y.1→cs.length=size→(∀ j u,cs[j]? = some u→w.cell? ⟨b,o+j,none⟩=some u)→∃ d,R b o d)
  (h:DataW.trod enc P w 0 (fun _=>true) true fuel t cs=some x) (hs:Sized P t x.1) :
  ∃ (A:Option Addr) (c:Nat) (l:List α),cs=[.slice A l.length c]∧l.length≤c∧IsRows w.heap.size size R A l∧c * bytes≤140737488351232:=by
 rcases open_slice ht h with ⟨hcs,rfl⟩ | ⟨a,len,cap,m,n,D,Pl,hcs,_,hl,hm,hmm,rfl,hel⟩
 ·exact ⟨none,0,[],hcs,Nat.le_refl _,fun h=>absurd h (by simp),by omega⟩
 ·simp only [if_true] at hmm
  subst hmm
  have hb:=sized_len ht hs
  rw [hby] at hb
  simp only [List.length_map,List.length_range] at hb
  rw [show len+(m - len)=m by omega] at hb
  rw [hc] at hel
  rcases Nat.eq_zero_or_pos len with h0 | h0
  ·subst h0
   exact ⟨some a,m,[],hcs,Nat.zero_le _,fun h=>absurd h (by simp),hb⟩
  obtain ⟨b,o,rfl,hbl⟩:∃ b o,a=⟨b,o,none⟩∧b<w.heap.size:=by
   obtain ⟨cs',h1,_⟩:=hel 0 (by omega)
   exact plain_of_cells hs0 h1
  have key:∀ i,i<len→∃ y:α,R b (o+i * size) y:=by
   intro i hi
   obtain ⟨cs',h1,h2⟩:=hel i (by omega)
   obtain ⟨hlen,hcell⟩:=cells_at h1
   have hmem:D i∈(List.range len).map D:=List.mem_map.2 ⟨i,by simpa using hi,rfl⟩
   have hsz:SizeOf.sizeOf (D i)<SizeOf.sizeOf (DataW.slice ((List.range len).map D) ((List.range (m - len)).map fun j=>D (len+j))):=by
    have:=List.sizeOf_lt_of_mem hmem
    simp only [DataW.slice.sizeOf_spec]
    omega
   exact elem _ _ _ b (o+i * size) hsz hbl h2 (sized_elem ht hs hmem) hlen hcell
  haveI:Inhabited α:=⟨Classical.choose (key 0 h0)⟩
  obtain ⟨f,hf⟩:=choose_lt key
  have hlen:((List.range len).map f).length=len:=by simp
  refine ⟨some ⟨b,o,none⟩,m,(List.range len).map f,by rw [hlen];exact hcs,by rw [hlen];exact hl,fun _=>⟨b,o,rfl,hbl,fun i d hd=>?_⟩,hb⟩
  have hi:i<len:=by
   have:=(List.getElem?_eq_some_iff.1 hd).1
   simpa using this
  simp [hi] at hd
  subst hd
  exact hf i hi

theorem open_strings {t e:TypeId} {fuel:Nat} {cs:List Value} {x:DataW H × List MemPlace} (ht:P.underlying t=some (.slice e)) (he:P.underlying e=some .string) (hc:P.cellsOf e=1) (hby:P.bytesOf e=16)
  (h:DataW.trod enc P w 0 (fun _=>true) true fuel t cs=some x) (hs:Sized P t x.1) :
  ∃ (A:Option Addr) (c:Nat) (l:List Str),cs=[.slice A l.length c]∧RF w (·<w.heap.size) 1 A l.length (l.map sv)∧(∀ s∈l,s.length≤maxLen)∧l.length≤c∧l.length≤140737488351232:=by
 obtain ⟨A,c,l,rfl,hlc,hr,hb⟩:=open_rows_sz (α:=Str) ht hc (by omega) hby (by omega) (fun b o s=>s.length≤maxLen∧w.cell? ⟨b,o,none⟩=some (sv s)) (fun fuel cs y b o _ _ hy _ hlen hcell=>by
  obtain ⟨s,rfl,_,hsz⟩:=DataW.trod_string he hy
  refine ⟨s.data.toList,by simpa using hsz,?_⟩
  rw [← sv_of]
  exact hcell 0 _ rfl) h hs
 refine ⟨A,c,l,rfl,⟨by simp,fun h0=>?_⟩,fun s hsm=>?_,hlc,by omega⟩
 ·obtain ⟨b,o,e,hbl,hf⟩:=hr h0
  refine ⟨b,o,e,hbl,fun j u hu=>?_⟩
  rw [List.getElem?_map] at hu
  cases hj:l[j]? with
  | none=>rw [hj] at hu;cases hu
  | some s =>
   rw [hj] at hu
   have:=(hf j s hj).2
   rw [Nat.mul_one] at this
   rw [this]
   exact hu
 ·obtain ⟨i,hi,rfl⟩:=List.getElem_of_mem hsm
  obtain ⟨b,o,_,_,hf⟩:=hr (by omega)
  exact (hf i _ (List.getElem?_eq_getElem hi)).1
theorem i64_of {n:Int} (h:(Lit.int .i64 n).wf=true):I64 n:=by
 have:=bounds_i64 h
 first
  | exact this
  | (unfold I64;omega)
  | (unfold I64;exact h)
end
section
variable {H : Type} {enc : TypeId × Value → H} {w : World}
set_option maxRecDepth 20000 in
theorem open_schema_trod:∀ (n fuel:Nat) (cs:List Value) (x:DataW H × List MemPlace),SizeOf.sizeOf x.1<n→DataW.trod enc Tryz.prog w 0 (fun _=>true) true fuel 25 cs=some x→Sized Tryz.prog 25 x.1→∃ s,IsSch w (·<w.heap.size) s cs
 | 0,_,_,_,h,_,_=>absurd h (by omega)
 | n+1,fuel,cs,x,hn,h,hs=>by
  obtain ⟨y0,y1,y2,m,rfl,hl,g0,g1,g2⟩:=trod_struct3 Tryz.underlying25 h
  have k0:Tryz.prog.cellsOf 3=1:=by kernel_rfl
  have k1:Tryz.prog.cellsOf 22=1:=by kernel_rfl
  have k2:Tryz.prog.cellsOf 23=1:=by kernel_rfl
  have k3:Tryz.prog.cellsOf 25=3:=by kernel_rfl
  rw [k3] at hl
  match cs,hl with
  | [x0,x1,x2],_ =>
   simp only [k0,k1,k2] at g0 g1 g2
   obtain ⟨q0,e0,_,w0⟩:=DataW.trod_int Tryz.underlying3 g0
   obtain ⟨A1,c1,l1,e1,r1,z1,c1l,m1⟩:=open_strings Tryz.underlying22 Tryz.underlying9 (by kernel_rfl) (by kernel_rfl) g1 (sized_each Tryz.underlying25 hs (j:=1) rfl rfl)
   have hsz2:SizeOf.sizeOf y2.1<SizeOf.sizeOf (DataW.agg [y0.1,y1.1,y2.1]):=by
    have:=List.sizeOf_lt_of_mem (show y2.1∈[y0.1,y1.1,y2.1] by simp)
    simp only [DataW.agg.sizeOf_spec]
    omega
   obtain ⟨A2,c2,l2,e2,c2l,r2,m2⟩:=open_rows_sz (α:=DSch × List Value) (size:=3) (bytes:=56) Tryz.underlying23 (by kernel_rfl) (by omega) (by kernel_rfl) (by omega)
    (fun b o d=>IsSch w (·<w.heap.size) d.1 d.2∧w.rangeAt b o d.2) (fun fuel' cs' y b o hlt hb hy hsy hlen hcell=>by
     obtain ⟨s,hsch⟩:=open_schema_trod n fuel' cs' y (by simp only at hn;omega) hy hsy
     exact ⟨(s,cs'),hsch,hcell⟩) g2 (sized_each Tryz.underlying25 hs (j:=2) rfl rfl)
   simp at e0 e1 e2
   subst e0 e1 e2
   rcases Nat.eq_zero_or_pos l2.length with h0 | h0
   ·have:l2=[]:=List.eq_nil_of_length_eq_zero h0
    subst this
    exact ⟨.mk q0 l1 [],.mk (b:=0) (o:=0) (C:=fun _=>[]) (i64_of w0) r1 z1 c1l m1 (fun h=>absurd h (by simp)) (fun i p hp=>by simp at hp) (fun i p hp=>by simp at hp) (Nat.zero_le _) (Nat.zero_le _)⟩
   ·obtain ⟨b,o,e,hb,hf⟩:=r2 h0
    refine ⟨.mk q0 l1 (l2.map (·.1)),?_⟩
    have hlen:(l2.map (·.1)).length=l2.length:=by simp
    have hget:∀ (i:Nat) (p:DSch),(l2.map (·.1))[i]? = some p→∃ C,l2[i]? = some (p,C):=by
     intro i p hp
     rw [List.getElem?_map] at hp
     cases hi:l2[i]? with
     | none=>rw [hi] at hp;cases hp
     | some d =>
      rw [hi] at hp
      obtain ⟨d1,d2⟩:=d
      simp at hp
      exact ⟨d2,by rw [hp]⟩
    rw [← hlen]
    refine .mk (b:=b) (o:=o) (C:=fun i=>(l2.getD i (.mk 0 [] [],[])).2) (i64_of w0) r1 z1 c1l m1 (fun _=>⟨e,hb⟩) (fun i p hp=>?_) (fun i p hp=>?_) (by rw [hlen];exact c2l) (by rw [hlen];omega)
    ·obtain ⟨C,hC⟩:=hget i p hp
     have h1:=hf i _ hC
     have e:(l2.getD i (.mk 0 [] [],[])).2=C:=by simp [List.getD,hC]
     rw [e]
     exact ⟨h1.1.length,h1.2⟩
    ·obtain ⟨C,hC⟩:=hget i p hp
     have h1:=hf i _ hC
     have e:(l2.getD i (.mk 0 [] [],[])).2=C:=by simp [List.getD,hC]
     rw [e]
     exact h1.1
set_option maxRecDepth 20000 in
theorem open_schema {v:Value} {d:DataW H} {p:List MemPlace} {W:World} {base:Nat} (h:DataW.Trod enc Tryz.prog w 0 (fun _=>true) true 25 v d p) (hs:Sized Tryz.prog 25 d) (hk:Value.okWide Tryz.prog W .any base 25 v) :
  ∃ (s:DSch) (cs:List Value),v=.agg cs.toArray∧IsSch w (·<w.heap.size) s cs:=by
 have:∃ cs:Array Value,v=.agg cs:=by
  simp only [Value.okWide,Tryz.underlying25] at hk
  obtain ⟨cs,h1,_⟩:=hk
  exact ⟨cs,h1⟩
 obtain ⟨cs,rfl⟩:=this
 obtain ⟨fuel,h⟩:=h
 obtain ⟨s,hs⟩:=open_schema_trod _ fuel _ (d,p) (Nat.lt_succ_self _) h hs
 exact ⟨s,cs.toList,by simp,by simpa [Value.cells] using hs⟩
end
section
variable {H : Type} {enc : TypeId × Value → H} {P : Program} {w : World}
theorem open_u64s {t e:TypeId} {fuel:Nat} {cs:List Value} {x:DataW H × List MemPlace} (ht:P.underlying t=some (.slice e)) (he:P.underlying e=some (.int .u64)) (hc:P.cellsOf e=1) (hby:P.bytesOf e=8)
  (h:DataW.trod enc P w 0 (fun _=>true) true fuel t cs=some x) (hs:Sized P t x.1) :
  ∃ (A:Option Addr) (c:Nat) (l:List Nat),cs=[.slice A l.length c]∧RF w (·<w.heap.size) 1 A l.length (l.map uv)∧(∀ s∈l,U64 (s:Int))∧l.length≤c∧l.length≤140737488351232:=by
 obtain ⟨A,c,l,rfl,hlc,hr,hb⟩:=open_rows_sz (α:=Nat) ht hc (by omega) hby (by omega) (fun b o s=>U64 (s:Int)∧w.cell? ⟨b,o,none⟩=some (uv s)) (fun fuel cs y b o _ _ hy _ hlen hcell=>by
  obtain ⟨n,rfl,_,hw⟩:=DataW.trod_int he hy
  have hw':=hw
  have hn:0≤n:=by have:=bounds_u64 hw;omega
  have e:((n.toNat:Nat):Int)=n:=Int.toNat_of_nonneg hn
  refine ⟨n.toNat,by rw [e];exact hw',?_⟩
  show _=some (Value.int .u64 ((n.toNat:Nat):Int))
  rw [e]
  exact hcell 0 _ rfl) h hs
 refine ⟨A,c,l,rfl,⟨by simp,fun h0=>?_⟩,fun s hsm=>?_,hlc,by omega⟩
 ·obtain ⟨b,o,e,hbl,hf⟩:=hr h0
  refine ⟨b,o,e,hbl,fun j u hu=>?_⟩
  rw [List.getElem?_map] at hu
  cases hj:l[j]? with
  | none=>rw [hj] at hu;cases hu
  | some s =>
   rw [hj] at hu
   have:=(hf j s hj).2
   rw [Nat.mul_one] at this
   rw [this]
   exact hu
 ·obtain ⟨i,hi,rfl⟩:=List.getElem_of_mem hsm
  obtain ⟨b,o,_,_,hf⟩:=hr (by omega)
  exact (hf i _ (List.getElem?_eq_getElem hi)).1
theorem trod_struct6 {t:TypeId} {f0 f1 f2 f3 f4 f5:Field} {fuel:Nat} {cs:List Value} {x:DataW H × List MemPlace} (ht:P.underlying t=some (.struct #[f0,f1,f2,f3,f4,f5])) (h:DataW.trod enc P w 0 (fun _=>true) true fuel t cs=some x) :
  ∃ y0 y1 y2 y3 y4 y5 n,x.1=.agg [y0.1,y1.1,y2.1,y3.1,y4.1,y5.1]∧cs.length=P.cellsOf t∧DataW.trod enc P w 0 (fun _=>true) true n f0.type ((cs.drop f0.offset).take (P.cellsOf f0.type))=some y0 ∧
   DataW.trod enc P w 0 (fun _=>true) true n f1.type ((cs.drop f1.offset).take (P.cellsOf f1.type))=some y1∧DataW.trod enc P w 0 (fun _=>true) true n f2.type ((cs.drop f2.offset).take (P.cellsOf f2.type))=some y2 ∧
   DataW.trod enc P w 0 (fun _=>true) true n f3.type ((cs.drop f3.offset).take (P.cellsOf f3.type))=some y3∧DataW.trod enc P w 0 (fun _=>true) true n f4.type ((cs.drop f4.offset).take (P.cellsOf f4.type))=some y4 ∧
   DataW.trod enc P w 0 (fun _=>true) true n f5.type ((cs.drop f5.offset).take (P.cellsOf f5.type))=some y5:=by
 obtain ⟨xs,n,_,rfl,hl,hlen,hf⟩:=DataW.trod_struct ht h
 match xs,hlen with
 | [y0,y1,y2,y3,y4,y5],_=>exact ⟨y0,y1,y2,y3,y4,y5,n,by simp,hl,by simpa using hf 0 f0 rfl,by simpa using hf 1 f1 rfl,by simpa using hf 2 f2 rfl,by simpa using hf 3 f3 rfl,by simpa using hf 4 f4 rfl,by simpa using hf 5 f5 rfl⟩
end
section
variable {H : Type} {enc : TypeId × Value → H} {w : World}
set_option maxRecDepth 20000 in
set_option maxHeartbeats 1000000 in
theorem open_value_trod:∀ (n fuel:Nat) (cs:List Value) (x:DataW H × List MemPlace),SizeOf.sizeOf x.1<n→DataW.trod enc Tryz.prog w 0 (fun _=>true) true fuel 43 cs=some x→Sized Tryz.prog 43 x.1→∃ s,IsVal w (·<w.heap.size) s cs
 | 0,_,_,_,h,_,_=>absurd h (by omega)
 | n+1,fuel,cs,x,hn,h,hs=>by
  obtain ⟨y0,y1,y2,y3,y4,y5,m,hx,hl,g0,g1,g2,g3,g4,g5⟩:=trod_struct6 Tryz.underlying43 h
  obtain ⟨x1,x2⟩:=x
  simp only at hx
  subst hx
  have k0:Tryz.prog.cellsOf 3=1:=by kernel_rfl
  have k1:Tryz.prog.cellsOf 9=1:=by kernel_rfl
  have k2:Tryz.prog.cellsOf 22=1:=by kernel_rfl
  have k3:Tryz.prog.cellsOf 40=1:=by kernel_rfl
  have k4:Tryz.prog.cellsOf 41=1:=by kernel_rfl
  have k5:Tryz.prog.cellsOf 43=6:=by kernel_rfl
  rw [k5] at hl
  match cs,hl with
  | [x0,x1,x2,x3,x4,x5],_ =>
   simp only [k0,k1,k2,k3,k4] at g0 g1 g2 g3 g4 g5
   obtain ⟨q0,e0,_,w0⟩:=DataW.trod_int Tryz.underlying3 g0
   obtain ⟨q1,e1,_,w1⟩:=DataW.trod_int Tryz.underlying3 g1
   obtain ⟨q2,e2,_,w2⟩:=DataW.trod_string Tryz.underlying9 g2
   obtain ⟨A3,c3,l3,e3,r3,z3,c3l,m3⟩:=open_strings Tryz.underlying22 Tryz.underlying9 (by kernel_rfl) (by kernel_rfl) g3 (sized_each Tryz.underlying43 hs (j:=3) rfl rfl)
   obtain ⟨A4,c4,l4,e4,r4,z4,c4l,m4⟩:=open_u64s Tryz.underlying40 Tryz.underlying122 (by kernel_rfl) (by kernel_rfl) g4 (sized_each Tryz.underlying43 hs (j:=4) rfl rfl)
   have hsz2:SizeOf.sizeOf y5.1<SizeOf.sizeOf (DataW.agg [y0.1,y1.1,y2.1,y3.1,y4.1,y5.1]):=by
    have:=List.sizeOf_lt_of_mem (show y5.1∈[y0.1,y1.1,y2.1,y3.1,y4.1,y5.1] by simp)
    simp only [DataW.agg.sizeOf_spec]
    omega
   obtain ⟨A2,c2,l2,e5,c2l,r2,m2⟩:=open_rows_sz (α:=DVal × List Value) (size:=6) (bytes:=104) Tryz.underlying41 (by kernel_rfl) (by omega) (by kernel_rfl) (by omega)
    (fun b o d=>IsVal w (·<w.heap.size) d.1 d.2∧w.rangeAt b o d.2) (fun fuel' cs' y b o hlt hb hy hsy hlen hcell=>by
     obtain ⟨s,hsch⟩:=open_value_trod n fuel' cs' y (by simp only at hn;omega) hy hsy
     exact ⟨(s,cs'),hsch,hcell⟩) g5 (sized_each Tryz.underlying43 hs (j:=5) rfl rfl)
   simp at e0 e1 e2 e3 e4 e5
   rw [sv_of] at e2
   subst e0 e1 e2 e3 e4 e5
   have w2':q2.data.toList.length≤maxLen:=by simpa using w2
   rcases Nat.eq_zero_or_pos l2.length with h0 | h0
   ·have:l2=[]:=List.eq_nil_of_length_eq_zero h0
    subst this
    exact ⟨.mk q0 q1 q2.data.toList l3 l4 [],.mk (b:=0) (o:=0) (C:=fun _=>[]) (i64_of w0) (i64_of w1) w2' r3 z3 c3l m3 r4 z4 c4l m4 (fun h=>absurd h (by simp)) (fun i p hp=>by simp at hp) (fun i p hp=>by simp at hp) (Nat.zero_le _) (Nat.zero_le _)⟩
   ·obtain ⟨b,o,e,hb,hf⟩:=r2 h0
    refine ⟨.mk q0 q1 q2.data.toList l3 l4 (l2.map (·.1)),?_⟩
    have hlen:(l2.map (·.1)).length=l2.length:=by simp
    have hget:∀ (i:Nat) (p:DVal),(l2.map (·.1))[i]? = some p→∃ C,l2[i]? = some (p,C):=by
     intro i p hp
     rw [List.getElem?_map] at hp
     cases hi:l2[i]? with
     | none=>rw [hi] at hp;cases hp
     | some d =>
      rw [hi] at hp
      obtain ⟨d1,d2⟩:=d
      simp at hp
      exact ⟨d2,by rw [hp]⟩
    rw [← hlen]
    refine .mk (b:=b) (o:=o) (C:=fun i=>(l2.getD i (.mk 0 0 [] [] [] [],[])).2) (i64_of w0) (i64_of w1) w2' r3 z3 c3l m3 r4 z4 c4l m4 (fun _=>⟨e,hb⟩) (fun i p hp=>?_) (fun i p hp=>?_) (by rw [hlen];exact c2l) (by rw [hlen];omega)
    ·obtain ⟨C,hC⟩:=hget i p hp
     have h1:=hf i _ hC
     have e:(l2.getD i (.mk 0 0 [] [] [] [],[])).2=C:=by simp [List.getD,hC]
     rw [e]
     exact ⟨h1.1.length,h1.2⟩
    ·obtain ⟨C,hC⟩:=hget i p hp
     have h1:=hf i _ hC
     have e:(l2.getD i (.mk 0 0 [] [] [] [],[])).2=C:=by simp [List.getD,hC]
     rw [e]
     exact h1.1
end
end Go.Proofs.YtogbklnkpjjkoaaGreatDoor
namespace Go.Proofs.YtogbklnkpjjkoaaGreatDoor
open Go.RowKit

def IdxP (p:Nat→Bool) (n:Nat) (e:Ending):Prop :=
 (∃ k:Nat,k<n∧e=.returned (.int .i64 k)∧p k=true∧∀ r,r<k→p r=false)∨(e=.returned (.int .i64 (-1))∧∀ r,r<n→p r=false)
def IdxPost (p:Nat→Bool) (n:Nat) (w:World) (e:Ending) (w':World):Prop:=IdxP p n e∧Below w.heap.size w w'
def sLt (a b:Str):Bool:=Op.bytesLess a b
theorem sLt_iff (a b:Str):sLt a b=decide (a<b):=bytesLess_eq _ _


set_option maxHeartbeats 1000000 in
set_option maxRecDepth 20000 in
theorem strF_index (K:Nat) (hK:∀ (x:Array Value) W,(callFunc K x).run Tryz.prog W=.ok (.enter K x) W) (n:Nat) (A:Option Addr) (c:Nat) (V:Nat→Value) (p:Nat→Bool) (w:World) (hn:n≤140737488351232)
  (hA:0<n→∃ b o,A=some ⟨b,o,none⟩∧b<w.heap.size∧∀ i,i<n→w.cell? ⟨b,o+i,none⟩=some (V i))
  (hcall:∀ i,i<n→∀ W,Below w.heap.size w W→Calls Tryz.prog K #[V i] W (Gives (.bool (p i)) W)) :
  Calls Tryz.prog 113 #[.slice A n c,.func (.func K) #[] #[]] w (IdxPost p n w):=by
 have HA:=hide hA
 have HC:=hide hcall
 clear hA hcall
 go_enter Tryz.func113,Tryz.ntmps113
 go_wp2_with fail
 go_loopw [8] (fun i wr=>∃ (k:Nat),i=.int .i64 k∧k≤n∧(∀ r,r<k→p r=false)∧Below w.heap.size w wr) (fun i _=>n - (intOf i).toNat)
 case atStart=>exact ⟨0,rfl,Nat.zero_le _,fun r hr=>by omega,Below.refl _ _⟩
 case round =>
  obtain ⟨k,rfl,hk,hno,hw⟩:=hrel
  obtain ⟨wo,rfl⟩:∃ wo:World,wo=wr:=⟨_,rfl⟩
  have GW:=hide hw
  have GN:=hide hno
  clear hw hno
  by_cases hlt:k<n
  ·obtain ⟨b,o,rfl,hb,hV⟩:=HA.out (by omega)
   have hcall':=HC.out k hlt
   have hcell:=(GW.out.cell (p:=⟨b,o+k,none⟩) hb).trans (hV k hlt)
   cases hx:p k
   all_goals
    have HX:=hide hx
    rw [hx] at hcall'
    clear hx hV
    generalize V k=vk at *

    have HCL:=hide hcall'
    clear hcall'
    go_wp2_with (fail)
    refine (HCL.out _ GW.out).mono ?_
    rintro e w1 ⟨rfl,hb1⟩
    have KW:=hide (GW.out.trans (hb1.mono GW.out.size))
    clear hb1
   ·go_wp2_with fail
    exact ⟨⟨k+1,by go_num,by omega,fun r hr=>by
     by_cases e:r=k
     ·rw [e];exact HX.out
     ·exact GN.out r (by omega),KW.out⟩,by simp [intOf];omega⟩
   ·go_wp2
    go_ret
    exact ⟨.inl ⟨k,hlt,rfl,HX.out,GN.out⟩,KW.out⟩
  ·obtain rfl:k=n:=by omega
   go_wp2
   go_ret
   exact ⟨.inr ⟨rfl,GN.out⟩,GW.out⟩

set_option maxHeartbeats 400000 in
theorem strF_contains (K:Nat) (hK:∀ (x:Array Value) W,(callFunc K x).run Tryz.prog W=.ok (.enter K x) W) (n:Nat) (A:Option Addr) (c:Nat) (V:Nat→Value) (p:Nat→Bool) (w:World) (hn:n≤140737488351232)
  (hA:0<n→∃ b o,A=some ⟨b,o,none⟩∧b<w.heap.size∧∀ i,i<n→w.cell? ⟨b,o+i,none⟩=some (V i))
  (hcall:∀ i,i<n→∀ W,Below w.heap.size w W→Calls Tryz.prog K #[V i] W (Gives (.bool (p i)) W)) :
  Calls Tryz.prog 150 #[.slice A n c,.func (.func K) #[] #[]] w (Gives (.bool ((List.range n).any p)) w):=by
 have HI:=hide (strF_index K hK n A c V p w hn hA hcall)
 clear hA hcall hK
 go_enter Tryz.func150,Tryz.ntmps150
 go_wp2_with fail
 refine HI.out.mono ?_
 rintro e w1 ⟨hi,hb⟩
 have HB:=hide hb
 clear hb
 rcases hi with ⟨k,hk,rfl,hp,hno⟩ | ⟨rfl,hno⟩
 ·have hx:(List.range n).any p=true:=List.any_eq_true.2 ⟨k,List.mem_range.2 hk,hp⟩
  have HX:=hide hx
  clear hx hp hno
  go_wp2
  go_ret
  exact ⟨ret_eq (by rw [HX.out];rfl),HB.out⟩
 ·have hx:(List.range n).any p=false:=List.any_eq_false.2 fun r hr=>by simp [hno r (List.mem_range.1 hr)]
  have HX:=hide hx
  clear hx hno
  go_wp2
  go_ret
  exact ⟨ret_eq (by rw [HX.out];rfl),HB.out⟩


set_option maxHeartbeats 400000 in
theorem isNaN_calls (a:Str) (w:World):Calls Tryz.prog 173 #[sv a] w (fun e w'=>e=.returned (.bool false)∧w=w'):=by
 go_enter Tryz.func173,Tryz.ntmps173
 go_wp2
 go_ret
 exact ⟨ret_eq (by simp),rfl⟩
set_option maxHeartbeats 400000 in
theorem less_calls (a b:Str) (w:World):Calls Tryz.prog 166 #[sv a,sv b] w (fun e w'=>e=.returned (.bool (sLt a b))∧w=w'):=by
 go_enter Tryz.func166,Tryz.ntmps166
 go_wp2_with fail
 refine (isNaN_calls a _).mono ?_
 rintro e w1 ⟨rfl,rfl⟩
 go_wp2_with fail
 go_ret
 exact ⟨rfl,rfl⟩

set_option maxHeartbeats 1000000 in
theorem strIndex_calls (l:List Str) (x:Str) (A:Option Addr) (c:Nat) (w:World) (hr:RF w (·<w.heap.size) 1 A l.length (l.map sv)) (hn:l.length≤140737488351232) :
  Calls Tryz.prog 105 #[.slice A l.length c,sv x] w (fun e w'=>IdxP (fun i=>decide (l[i]? = some x)) l.length e∧w=w'):=by
 have HR:=hide hr
 clear hr
 go_enter Tryz.func105,Tryz.ntmps105
 go_wp2_with fail
 go_loop [8] (fun i=>∃ (k:Nat),i=.int .i64 k∧k≤l.length∧(∀ r,r<k→l[r]? ≠ some x)) (fun i=>l.length - (intOf i).toNat)
 case atStart=>exact ⟨0,rfl,Nat.zero_le _,fun r hr=>by omega⟩
 case round =>
  obtain ⟨k,rfl,hk,hno⟩:=hrel
  have GN:=hide hno
  clear hno
  by_cases hlt:k<l.length
  ·obtain ⟨b,o,rfl,hb,hc⟩:=HR.out.at_ hlt
   have hg:l[k]? = some l[k]:=List.getElem?_eq_getElem hlt
   generalize l[k]=y at *
   have HG:=hide hg
   clear hg
   by_cases hx:x=y
   ·subst hx
    have hxx:(x == x)=true:=by simp
    go_wp2
    go_ret
    exact ⟨.inl ⟨k,hlt,rfl,by simp [HG.out],fun r hr=>by simpa using GN.out r hr⟩,rfl⟩
   ·have hxx:(x == y)=false:=by simpa using hx
    have HX:=hide hx
    clear hx
    go_wp2_with fail
    exact ⟨⟨k+1,by go_num,by omega,fun r hr=>by
     by_cases e:r=k
     ·rw [e,HG.out];intro h;exact HX.out (Option.some.inj h).symm
     ·exact GN.out r (by omega)⟩,by simp [intOf];omega⟩
  ·obtain rfl:k=l.length:=by omega
   go_wp2
   go_ret
   exact ⟨.inr ⟨rfl,fun r hr=>by simpa using GN.out r hr⟩,rfl⟩
set_option maxHeartbeats 400000 in
theorem strContains_calls (l:List Str) (x:Str) (A:Option Addr) (c:Nat) (w:World) (hr:RF w (·<w.heap.size) 1 A l.length (l.map sv)) (hn:l.length≤140737488351232) :
  Calls Tryz.prog 152 #[.slice A l.length c,sv x] w (fun e w'=>e=.returned (.bool (decide (x∈l)))∧w=w'):=by
 have HI:=hide (strIndex_calls l x A c w hr hn)
 clear hr
 go_enter Tryz.func152,Tryz.ntmps152
 go_wp2_with fail
 refine HI.out.mono ?_
 rintro e w1 ⟨hi,rfl⟩
 rcases hi with ⟨k,hk,rfl,hp,hno⟩ | ⟨rfl,hno⟩
 ·have HX:Hid (decide (x∈l)=true):=hide (decide_eq_true (List.mem_of_getElem? (by simpa using hp)))
  clear hp hno
  go_wp2
  go_ret
  exact ⟨ret_eq (by rw [HX.out];rfl),rfl⟩
 ·have HX:Hid (decide (x∈l)=false):=hide (decide_eq_false fun hm=>by
   obtain ⟨i,hi,e⟩:=List.getElem_of_mem hm
   have:=hno i hi
   simp only [List.getElem?_eq_getElem hi,e] at this
   simp at this)
  clear hno
  go_wp2
  go_ret
  exact ⟨ret_eq (by rw [HX.out];rfl),rfl⟩

def unlikeB (l:List Str):Bool:=(List.range l.length).all fun i => !decide (l.getD i []∈l.take i)
set_option maxHeartbeats 1000000 in
theorem unlike_calls (l:List Str) (A:Option Addr) (c:Nat) (w:World) (hr:RF w (·<w.heap.size) 1 A l.length (l.map sv)) (hn:l.length≤140737488351232) (hc:l.length≤c) :
  Calls Tryz.prog 118 #[.slice A l.length c] w (fun e w'=>e=.returned (.bool (unlikeB l))∧w=w'):=by
 have HR:=hide hr
 clear hr
 go_enter Tryz.func118,Tryz.ntmps118
 go_wp2_with fail
 go_loop [7] (fun i=>∃ (k:Nat),i=.int .i64 k∧k≤l.length∧(∀ r,r<k→l.getD r [] ∉ l.take r)) (fun i=>l.length - (intOf i).toNat)
 case atStart=>exact ⟨0,rfl,Nat.zero_le _,fun r hr=>by omega⟩
 case round =>
  obtain ⟨k,rfl,hk,hno⟩:=hrel
  have GN:=hide hno
  clear hno
  by_cases hlt:k<l.length
  ·obtain ⟨b,o,rfl,hb,hcell⟩:=HR.out.at_ hlt
   have hg:l.getD k []=l[k]:=by simp [List.getD,hlt]
   have HRT:Hid (RF w (·<w.heap.size) 1 (some ⟨b,o,none⟩) (l.take k).length ((l.take k).map sv)):=hide (by
    have:=Reads.take (k:=k) HR.out (by omega)
    rw [Nat.mul_one,← List.map_take] at this
    rw [List.length_take,Nat.min_eq_left (by omega)]
    exact this)
   have hlen:(l.take k).length=k:=by simp;omega
   have HC:=hide (fun x=>strContains_calls (l.take k) x (some ⟨b,o,none⟩) c w HRT.out (by omega))
   rw [hlen] at HC
   have HG:=hide hg
   clear hg hlen
   generalize l[k]=y at *
   cases hx:decide (y∈l.take k)
   ·have HX:=hide hx
    clear hx
    go_wp2_with fail
    refine (HC.out y).mono ?_
    rintro e w1 ⟨rfl,rfl⟩
    rw [HX.out]
    go_wp2_with fail
    exact ⟨⟨k+1,by go_num,by omega,fun r hr=>by
     by_cases e:r=k
     ·rw [e,HG.out];exact of_decide_eq_false HX.out
     ·exact GN.out r (by omega)⟩,by simp [intOf];omega⟩
   ·have HX:=hide hx
    clear hx
    go_wp2_with fail
    refine (HC.out y).mono ?_
    rintro e w1 ⟨rfl,rfl⟩
    rw [HX.out]
    go_wp2
    go_ret
    exact ⟨ret_eq (by rw [show unlikeB l=false from List.all_eq_false.2 ⟨k,List.mem_range.2 hlt,by rw [HG.out,HX.out];simp⟩];rfl),rfl⟩
  ·obtain rfl:k=l.length:=by omega
   go_wp2
   go_ret
   exact ⟨ret_eq (by rw [show unlikeB l=true from List.all_eq_true.2 fun i hi=>by simpa using GN.out i (List.mem_range.1 hi)];rfl),rfl⟩

def sortedB (l:List Str):Bool:=(List.range (l.length - 1)).all fun i => !sLt (l.getD (i+1) []) (l.getD i [])
set_option maxHeartbeats 1000000 in
set_option maxRecDepth 20000 in
theorem isSorted_calls (l:List Str) (A:Option Addr) (c:Nat) (w:World) (hr:RF w (·<w.heap.size) 1 A l.length (l.map sv)) (hn:l.length≤140737488351232) :
  Calls Tryz.prog 153 #[.slice A l.length c] w (Gives (.bool (sortedB l)) w):=by
 have HR:=hide hr
 clear hr
 go_enter Tryz.func153,Tryz.ntmps153
 go_wp2_with fail
 go_loopw [3] (fun i wr=>∃ (z:Int),i=.int .i64 z∧-1≤z∧z<l.length∧(∀ r:Nat,z≤r→r+1<l.length→sLt (l.getD (r+1) []) (l.getD r [])=false)∧Below w.heap.size w wr) (fun i _=>(intOf i).toNat)
 case atStart=>exact ⟨(l.length:Int) - 1,rfl,by omega,by omega,fun r h1 h2=>by omega,Below.refl _ _⟩
 case round =>
  obtain ⟨z,rfl,hz,hzl,hno,hw⟩:=hrel
  have GN:=hide hno
  have GW:=hide hw
  clear hno hw
  obtain ⟨wo,rfl⟩:∃ wo:World,wo=wr:=⟨_,rfl⟩
  by_cases hz0:0<z
  ·obtain ⟨k,rfl⟩:∃ k:Nat,z=(k:Int)+1:=⟨(z - 1).toNat,by omega⟩
   have h1:k+1<l.length:=by omega
   have h0:k<l.length:=by omega
   obtain ⟨b,o,rfl,hb,hc1⟩:=HR.out.at_ h1
   obtain ⟨b',o',e',_,hc0⟩:=HR.out.at_ h0
   obtain ⟨rfl,rfl⟩:b=b'∧o=o':=by injection e' with e';injection e' with e1 e2;exact ⟨e1,e2⟩
   have hg1:l.getD (k+1) []=l[k+1]:=by simp [List.getD,h1]
   have hg0:l.getD k []=l[k]:=by simp [List.getD,h0]
   have HG:=hide (And.intro hg1 hg0)
   have D1:Hid (∀ W,Below wo.heap.size wo W→W.cell? ⟨b,o+(k+1),none⟩=some (sv l[k+1])):=hide fun W hW=>(hW.cell (p:=⟨b,o+(k+1),none⟩) (Nat.lt_of_lt_of_le hb GW.out.size)).trans ((GW.out.cell (p:=⟨b,o+(k+1),none⟩) hb).trans hc1)
   have D0:Hid (∀ W,Below wo.heap.size wo W→W.cell? ⟨b,o+k,none⟩=some (sv l[k])):=hide fun W hW=>(hW.cell (p:=⟨b,o+k,none⟩) (Nat.lt_of_lt_of_le hb GW.out.size)).trans ((GW.out.cell (p:=⟨b,o+k,none⟩) hb).trans hc0)
   have j0:(0:Int)≤(k:Int)+1:=by omega
   have j2:(k:Int)+1<(l.length:Int):=by omega
   have j3:(0:Int)≤(k:Int):=by omega
   have j4:(k:Int)<(l.length:Int):=by omega
   have j5:((k:Int)+1).toNat=k+1:=by omega
   have j6:IntKind.i64.wrap (k:Int)=(k:Int):=IntWalk.i64_in _ (by omega)
   clear hg1 hg0 e' hc1 hc0
   generalize l[k+1]=y at *
   generalize l[k]=x at *
   cases hx:sLt y x
   all_goals
    have HX:=hide hx
    clear hx
    have HLC:=hide (fun W=>less_calls y x W)
    rw [HX.out] at HLC
    go_wp2_with fail
    refine wp_region_held_drew (S:=fun w'=>Below wo.heap.size wo w') (by kernel_rfl) (Below.refl _ _).drew (fun hHeld=>?_)
    (refine takeH (i:=0) (v:=.slice (some ⟨b,o,none⟩) l.length c) rfl rfl (by kernel_rfl) (by kernel_rfl) (by kernel_rfl) (fun _ _ _ h=>h) (by rfl) (fun wz hSw=>by go_simp) hHeld ?_;simp only [Act.put,List.setIfInBounds_toArray,List.set_cons_zero,List.set_cons_succ])
    (refine takeH (i:=1) (v:=.int .i64 ((k:Int)+1)) rfl rfl (by kernel_rfl) (by kernel_rfl) (by kernel_rfl) (fun _ _ _ h=>h) (by rfl) (fun wz hSw=>by go_simp) hHeld ?_;simp only [Act.put,List.setIfInBounds_toArray,List.set_cons_zero,List.set_cons_succ])
    (refine takeH (i:=2) (v:=.pointer (some ⟨b,o+(k+1),none⟩)) rfl rfl (by kernel_rfl) (by kernel_rfl) (by kernel_rfl) (fun _ _ _ h=>h) (by rfl) (fun wz hSw=>by go_simp) hHeld ?_;simp only [Act.put,List.setIfInBounds_toArray,List.set_cons_zero,List.set_cons_succ])
    (refine takeH (i:=3) (v:=sv y) rfl rfl (by kernel_rfl) (by kernel_rfl) (by kernel_rfl) (fun _ _ _ h=>h) (by rfl) (fun wz hSw=>by have hcx:=D1.out _ hSw;go_simp) hHeld ?_;simp only [Act.put,List.setIfInBounds_toArray,List.set_cons_zero,List.set_cons_succ])
    (refine takeH (i:=4) (v:=.slice (some ⟨b,o,none⟩) l.length c) rfl rfl (by kernel_rfl) (by kernel_rfl) (by kernel_rfl) (fun _ _ _ h=>h) (by rfl) (fun wz hSw=>by go_simp) hHeld ?_;simp only [Act.put,List.setIfInBounds_toArray,List.set_cons_zero,List.set_cons_succ])
    (refine takeH (i:=5) (v:=.int .i64 ((k:Int)+1)) rfl rfl (by kernel_rfl) (by kernel_rfl) (by kernel_rfl) (fun _ _ _ h=>h) (by rfl) (fun wz hSw=>by go_simp) hHeld ?_;simp only [Act.put,List.setIfInBounds_toArray,List.set_cons_zero,List.set_cons_succ])
    (refine takeH (i:=6) (v:=.int .i64 (k:Int)) rfl rfl (by kernel_rfl) (by kernel_rfl) (by kernel_rfl) (fun _ _ _ h=>h) (by rfl) (fun wz hSw=>by go_simp) hHeld ?_;simp only [Act.put,List.setIfInBounds_toArray,List.set_cons_zero,List.set_cons_succ])
    (refine takeH (i:=7) (v:=.pointer (some ⟨b,o+k,none⟩)) rfl rfl (by kernel_rfl) (by kernel_rfl) (by kernel_rfl) (fun _ _ _ h=>h) (by rfl) (fun wz hSw=>by go_simp) hHeld ?_;simp only [Act.put,List.setIfInBounds_toArray,List.set_cons_zero,List.set_cons_succ])
    (refine takeH (i:=8) (v:=sv x) rfl rfl (by kernel_rfl) (by kernel_rfl) (by kernel_rfl) (fun _ _ _ h=>h) (by rfl) (fun wz hSw=>by have hcx:=D0.out _ hSw;go_simp) hHeld ?_;simp only [Act.put,List.setIfInBounds_toArray,List.set_cons_zero,List.set_cons_succ])
    (refine oneH (i:=9) rfl (by kernel_rfl) (fun K hK=>?_);go_simp;refine (HLC.out _).mono ?_;rintro e w1 ⟨rfl,rfl⟩;refine hK.out _ _ (hHeld) (fun hHeld=>?_);clear hK K)
    refine wpAnyH_done (by kernel_rfl) ?_ _
    have KW:=hide (GW.out.trans (hHeld.mono GW.out.size))
    clear hHeld j5 j6
   ·go_wp2_with fail
    exact ⟨⟨(k:Int),rfl,by omega,by omega,fun r h1 h2=>by
     by_cases e:r=k
     ·rw [e,HG.out.1,HG.out.2];exact HX.out
     ·exact GN.out r (by omega) h2,KW.out⟩,by simp [intOf]⟩
   ·have HT:Hid (sortedB l=false):=hide (List.all_eq_false.2 ⟨k,List.mem_range.2 (by omega),by rw [HG.out.1,HG.out.2,HX.out];simp⟩)
    clear GN
    go_wp2
    go_ret
    exact ⟨ret_eq (by rw [HT.out];rfl),KW.out⟩
  ·have HT:Hid (sortedB l=true):=hide (List.all_eq_true.2 fun i hi=>by
    have:=List.mem_range.1 hi
    rw [GN.out i (by omega) (by omega)];rfl)
   clear GN
   go_wp2
   go_ret
   exact ⟨ret_eq (by rw [HT.out];rfl),GW.out⟩

set_option maxHeartbeats 1000000 in
set_option maxRecDepth 20000 in
theorem strEqual_calls (l m:List Str) (A A2:Option Addr) (c c2:Nat) (w:World) (hr:RF w (·<w.heap.size) 1 A l.length (l.map sv)) (hr2:RF w (·<w.heap.size) 1 A2 m.length (m.map sv)) (hn:l.length≤140737488351232) (hm:m.length≤140737488351232) :
  Calls Tryz.prog 141 #[.slice A l.length c,.slice A2 m.length c2] w (Gives (.bool (decide (l=m))) w):=by
 have HR:=hide hr
 have HR2:=hide hr2
 clear hr hr2
 by_cases hlen:l.length=m.length
 ·have hne:((l.length:Int) != (m.length:Int))=false:=by simp [hlen]
  have HLen:=hide hlen
  clear hlen
  go_enter Tryz.func141,Tryz.ntmps141
  go_wp2_with fail
  go_loopw [13] (fun i wr=>∃ (k:Nat),i=.int .i64 k∧k≤l.length∧l.take k=m.take k∧Below w.heap.size w wr) (fun i _=>l.length - (intOf i).toNat)
  case atStart=>exact ⟨0,rfl,Nat.zero_le _,by simp,Below.refl _ _⟩
  case round =>
   obtain ⟨k,rfl,hk,heq,hw⟩:=hrel
   have GW:=hide hw
   have GE:=hide heq
   clear hw heq
   obtain ⟨wo,rfl⟩:∃ wo:World,wo=wr:=⟨_,rfl⟩
   by_cases hlt:k<l.length
   ·have hlt2:k<m.length:=by rw [← HLen.out];exact hlt
    obtain ⟨b,o,rfl,hb,hc1⟩:=HR.out.at_ hlt
    obtain ⟨b2,o2,rfl,hb2,hc2⟩:=HR2.out.at_ hlt2
    have D1:Hid (∀ W,Below wo.heap.size wo W→W.cell? ⟨b,o+k,none⟩=some (sv l[k])):=hide fun W hW=>(hW.cell (p:=⟨b,o+k,none⟩) (Nat.lt_of_lt_of_le hb GW.out.size)).trans ((GW.out.cell (p:=⟨b,o+k,none⟩) hb).trans hc1)
    have D2:Hid (∀ W,Below wo.heap.size wo W→W.cell? ⟨b2,o2+k,none⟩=some (sv m[k])):=hide fun W hW=>(hW.cell (p:=⟨b2,o2+k,none⟩) (Nat.lt_of_lt_of_le hb2 GW.out.size)).trans ((GW.out.cell (p:=⟨b2,o2+k,none⟩) hb2).trans hc2)
    have j1:(0:Int)≤(k:Int):=by omega
    have j2:(k:Int)<(l.length:Int):=by omega
    have j3:(k:Int)<(m.length:Int):=by omega
    have HT:Hid (l[k]=m[k]→l.take (k+1)=m.take (k+1)):=hide fun e=>by rw [List.take_succ_eq_append_getElem hlt,List.take_succ_eq_append_getElem hlt2,GE.out,e]
    have HD:Hid (l[k] ≠ m[k]→decide (l=m)=false):=hide fun e=>by
     rw [decide_eq_false_iff_not]
     rintro rfl
     exact e rfl
    clear hc1 hc2
    generalize l[k]=x at *
    generalize m[k]=y at *
    cases hx:(x == y)
    all_goals
     have HX:=hide hx
     go_wp2_with fail
     refine wp_region_held_drew (S:=fun w'=>Below wo.heap.size wo w') (by kernel_rfl) (Below.refl _ _).drew (fun hHeld=>?_)
     (refine takeH (i:=0) (v:=.slice (some ⟨b,o,none⟩) l.length c) rfl rfl (by kernel_rfl) (by kernel_rfl) (by kernel_rfl) (fun _ _ _ h=>h) (by rfl) (fun wz hSw=>by go_simp) hHeld ?_;simp only [Act.put,List.setIfInBounds_toArray,List.set_cons_zero,List.set_cons_succ])
     (refine takeH (i:=1) (v:=.int .i64 k) rfl rfl (by kernel_rfl) (by kernel_rfl) (by kernel_rfl) (fun _ _ _ h=>h) (by rfl) (fun wz hSw=>by go_simp) hHeld ?_;simp only [Act.put,List.setIfInBounds_toArray,List.set_cons_zero,List.set_cons_succ])
     (refine takeH (i:=2) (v:=.pointer (some ⟨b,o+k,none⟩)) rfl rfl (by kernel_rfl) (by kernel_rfl) (by kernel_rfl) (fun _ _ _ h=>h) (by rfl) (fun wz hSw=>by go_simp) hHeld ?_;simp only [Act.put,List.setIfInBounds_toArray,List.set_cons_zero,List.set_cons_succ])
     (refine takeH (i:=3) (v:=sv x) rfl rfl (by kernel_rfl) (by kernel_rfl) (by kernel_rfl) (fun _ _ _ h=>h) (by rfl) (fun wz hSw=>by have hcx:=D1.out _ hSw;go_simp) hHeld ?_;simp only [Act.put,List.setIfInBounds_toArray,List.set_cons_zero,List.set_cons_succ])
     (refine takeH (i:=4) (v:=.slice (some ⟨b2,o2,none⟩) m.length c2) rfl rfl (by kernel_rfl) (by kernel_rfl) (by kernel_rfl) (fun _ _ _ h=>h) (by rfl) (fun wz hSw=>by go_simp) hHeld ?_;simp only [Act.put,List.setIfInBounds_toArray,List.set_cons_zero,List.set_cons_succ])
     (refine takeH (i:=5) (v:=.int .i64 k) rfl rfl (by kernel_rfl) (by kernel_rfl) (by kernel_rfl) (fun _ _ _ h=>h) (by rfl) (fun wz hSw=>by go_simp) hHeld ?_;simp only [Act.put,List.setIfInBounds_toArray,List.set_cons_zero,List.set_cons_succ])
     (refine takeH (i:=6) (v:=.pointer (some ⟨b2,o2+k,none⟩)) rfl rfl (by kernel_rfl) (by kernel_rfl) (by kernel_rfl) (fun _ _ _ h=>h) (by rfl) (fun wz hSw=>by go_simp) hHeld ?_;simp only [Act.put,List.setIfInBounds_toArray,List.set_cons_zero,List.set_cons_succ])
     (refine takeH (i:=7) (v:=sv y) rfl rfl (by kernel_rfl) (by kernel_rfl) (by kernel_rfl) (fun _ _ _ h=>h) (by rfl) (fun wz hSw=>by have hcx:=D2.out _ hSw;go_simp) hHeld ?_;simp only [Act.put,List.setIfInBounds_toArray,List.set_cons_zero,List.set_cons_succ])
     (refine oneH (i:=8) rfl (by kernel_rfl) (fun K hK=>?_);go_simp;refine hK.out _ _ (hHeld) (fun hHeld=>?_);clear hK K)
     refine wpAnyH_done (by kernel_rfl) ?_ _
     have KW:=hide (GW.out.trans (hHeld.mono GW.out.size))
     clear hHeld hx
    ·go_wp2
     go_ret
     exact ⟨ret_eq (by rw [HD.out (by simpa using HX.out)];rfl),KW.out⟩
    ·go_wp2_with fail
     exact ⟨⟨k+1,by go_num,by omega,HT.out (by simpa using HX.out),KW.out⟩,by simp [intOf];omega⟩
   ·obtain rfl:k=l.length:=by omega
    have e:l=m:=by
     have:=GE.out
     rw [List.take_length] at this
     rw [this]
     exact List.take_of_length_le (by rw [← HLen.out];exact Nat.le_refl _)
    have HE:=hide e
    clear e
    go_wp2
    go_ret
    exact ⟨ret_eq (by rw [decide_eq_true HE.out];rfl),GW.out⟩
 ·have hne:((l.length:Int) != (m.length:Int))=true:=by simp;omega
  have HD:Hid (decide (l=m)=false):=hide (decide_eq_false fun e=>hlen (by rw [e]))
  clear hlen
  go_enter Tryz.func141,Tryz.ntmps141
  go_wp2
  go_ret
  exact ⟨ret_eq (by rw [HD.out];rfl),Below.refl _ _⟩

set_option maxHeartbeats 1000000 in
theorem uIndex_calls (l:List Nat) (x:Nat) (A:Option Addr) (c:Nat) (w:World) (hr:RF w (·<w.heap.size) 1 A l.length (l.map uv)) (hn:l.length≤140737488351232) :
  Calls Tryz.prog 178 #[.slice A l.length c,uv x] w (fun e w'=>IdxP (fun i=>decide (l[i]? = some x)) l.length e∧w=w'):=by
 have HR:=hide hr
 clear hr
 go_enter Tryz.func178,Tryz.ntmps178
 go_wp2_with fail
 go_loop [8] (fun i=>∃ (k:Nat),i=.int .i64 k∧k≤l.length∧(∀ r,r<k→l[r]? ≠ some x)) (fun i=>l.length - (intOf i).toNat)
 case atStart=>exact ⟨0,rfl,Nat.zero_le _,fun r hr=>by omega⟩
 case round =>
  obtain ⟨k,rfl,hk,hno⟩:=hrel
  have GN:=hide hno
  clear hno
  by_cases hlt:k<l.length
  ·obtain ⟨b,o,rfl,hb,hc⟩:=HR.out.at_ hlt
   have hg:l[k]? = some l[k]:=List.getElem?_eq_getElem hlt
   generalize l[k]=y at *
   have HG:=hide hg
   clear hg
   by_cases hx:x=y
   ·subst hx
    have hxx:((x:Int) == (x:Int))=true:=by simp
    go_wp2
    go_ret
    exact ⟨.inl ⟨k,hlt,rfl,by simp [HG.out],fun r hr=>by simpa using GN.out r hr⟩,rfl⟩
   ·have hxx:((x:Int) == (y:Int))=false:=by simp;omega
    have HX:=hide hx
    clear hx
    go_wp2_with fail
    exact ⟨⟨k+1,by go_num,by omega,fun r hr=>by
     by_cases e:r=k
     ·rw [e,HG.out];intro h;exact HX.out (Option.some.inj h).symm
     ·exact GN.out r (by omega)⟩,by simp [intOf];omega⟩
  ·obtain rfl:k=l.length:=by omega
   go_wp2
   go_ret
   exact ⟨.inr ⟨rfl,fun r hr=>by simpa using GN.out r hr⟩,rfl⟩
set_option maxHeartbeats 400000 in
theorem uContains_calls (l:List Nat) (x:Nat) (A:Option Addr) (c:Nat) (w:World) (hr:RF w (·<w.heap.size) 1 A l.length (l.map uv)) (hn:l.length≤140737488351232) :
  Calls Tryz.prog 177 #[.slice A l.length c,uv x] w (fun e w'=>e=.returned (.bool (decide (x∈l)))∧w=w'):=by
 have HI:=hide (uIndex_calls l x A c w hr hn)
 clear hr
 go_enter Tryz.func177,Tryz.ntmps177
 go_wp2_with fail
 refine HI.out.mono ?_
 rintro e w1 ⟨hi,rfl⟩
 rcases hi with ⟨k,hk,rfl,hp,hno⟩ | ⟨rfl,hno⟩
 ·have HX:Hid (decide (x∈l)=true):=hide (decide_eq_true (List.mem_of_getElem? (by simpa using hp)))
  clear hp hno
  go_wp2
  go_ret
  exact ⟨ret_eq (by rw [HX.out];rfl),rfl⟩
 ·have HX:Hid (decide (x∈l)=false):=hide (decide_eq_false fun hm=>by
   obtain ⟨i,hi,e⟩:=List.getElem_of_mem hm
   have:=hno i hi
   simp only [List.getElem?_eq_getElem hi,e] at this
   simp at this)
  clear hno
  go_wp2
  go_ret
  exact ⟨ret_eq (by rw [HX.out];rfl),rfl⟩

def idOk (l:List Nat) (i:Nat):Bool := !decide (l.getD i 0=0) && !decide (l.getD i 0∈l.take i)
def idsB (l:List Nat):Bool:=((List.range l.length).all (idOk l)) && decide (l.length≤12)
set_option maxHeartbeats 1000000 in
theorem ids_calls (l:List Nat) (A:Option Addr) (c:Nat) (w:World) (hr:RF w (·<w.heap.size) 1 A l.length (l.map uv)) (hn:l.length≤140737488351232) (hc:l.length≤c) :
  Calls Tryz.prog 175 #[.slice A l.length c] w (fun e w'=>e=.returned (.bool (idsB l))∧w=w'):=by
 have HR:=hide hr
 clear hr
 go_enter Tryz.func175,Tryz.ntmps175
 go_wp2_with fail
 go_loop [7] (fun i=>∃ (k:Nat),i=.int .i64 k∧k≤l.length∧(∀ r,r<k→idOk l r=true)) (fun i=>l.length - (intOf i).toNat)
 case atStart=>exact ⟨0,rfl,Nat.zero_le _,fun r hr=>by omega⟩
 case round =>
  obtain ⟨k,rfl,hk,hno⟩:=hrel
  have GN:=hide hno
  clear hno
  by_cases hlt:k<l.length
  ·obtain ⟨b,o,rfl,hb,hcell⟩:=HR.out.at_ hlt
   have hg:l.getD k 0=l[k]:=by simp [List.getD,hlt]
   have HOK:Hid (idOk l k=(!decide (l[k]=0) && !decide (l[k]∈l.take k))):=hide (by unfold idOk;rw [hg])
   have HRT:Hid (RF w (·<w.heap.size) 1 (some ⟨b,o,none⟩) (l.take k).length ((l.take k).map uv)):=hide (by
    have:=Reads.take (k:=k) HR.out (by omega)
    rw [Nat.mul_one,← List.map_take] at this
    rw [List.length_take,Nat.min_eq_left (by omega)]
    exact this)
   have hlen:(l.take k).length=k:=by simp;omega
   have HC:=hide (fun x=>uContains_calls (l.take k) x (some ⟨b,o,none⟩) c w HRT.out (by omega))
   rw [hlen] at HC
   clear hg hlen
   have HFL:Hid (idOk l k=false→idsB l=false):=hide fun h=>by
    unfold idsB
    rw [show (List.range l.length).all (idOk l)=false from List.all_eq_false.2 ⟨k,List.mem_range.2 hlt,by rw [h];simp⟩,Bool.false_and]
   generalize l[k]=y at *
   by_cases h0:y=0
   ·have h00:((y:Int) == 0)=true:=by simp [h0]
    have HX:Hid (idsB l=false):=hide (HFL.out (by rw [HOK.out,decide_eq_true h0];rfl))
    clear h0
    go_wp2
    go_ret
    exact ⟨ret_eq (by rw [HX.out];rfl),rfl⟩
   ·have h00:((y:Int) == 0)=false:=by simpa using h0
    rw [decide_eq_false h0,Bool.not_false,Bool.true_and] at HOK
    clear h0
    cases hx:decide (y∈l.take k)
    ·rw [hx] at HOK
     have HX:=hide hx
     clear hx
     go_wp2_with fail
     refine (HC.out y).mono ?_
     rintro e w1 ⟨rfl,rfl⟩
     rw [HX.out]
     go_wp2_with fail
     exact ⟨⟨k+1,by go_num,by omega,fun r hr=>by
      by_cases e:r=k
      ·rw [e,HOK.out];rfl
      ·exact GN.out r (by omega)⟩,by simp [intOf];omega⟩
    ·rw [hx] at HOK
     have HX:=hide hx
     clear hx
     go_wp2_with fail
     refine (HC.out y).mono ?_
     rintro e w1 ⟨rfl,rfl⟩
     rw [HX.out]
     go_wp2
     go_ret
     exact ⟨ret_eq (by rw [HFL.out (by rw [HOK.out];rfl)];rfl),rfl⟩
  ·obtain rfl:k=l.length:=by omega
   have HE:Hid (idsB l=decide (l.length≤12)):=hide (by
    unfold idsB
    rw [show (List.range l.length).all (idOk l)=true from List.all_eq_true.2 fun i hi=>GN.out i (List.mem_range.1 hi),Bool.true_and])
   go_wp2
   go_ret
   exact ⟨ret_eq (by rw [HE.out];first | rfl | (simp;done) | (simp;omega) | (simp;rw [Bool.eq_iff_iff];simp;omega) | (rw [Bool.eq_iff_iff];simp;omega) | (simp;rw [Bool.eq_iff_iff];simp)),rfl⟩

def nameByte (c:Nat):Bool:=decide ((97≤c∧c≤122)∨(48≤c∧c≤57)∨c=95)
def nameB (s:Str):Bool:=(s.all fun c=>nameByte c.toNat) && decide (1≤s.length∧s.length≤12)

theorem nameByte_true {c:Nat} (h:(97≤c∧c≤122)∨(48≤c∧c≤57)∨c=95):nameByte c=true:=decide_eq_true h
theorem nameByte_false {c:Nat} (h:¬ ((97≤c∧c≤122)∨(48≤c∧c≤57)∨c=95)):nameByte c=false:=decide_eq_false h

set_option maxHeartbeats 1000000 in
theorem nameOther_calls (R:Nat) (w:World) (hR:R≤1114111):Calls Tryz.prog 135 #[.int .i32 (R:Int)] w (fun e w'=>e=.returned (.bool (!nameByte R))∧w=w'):=by
 have key:R<48∨(48≤R∧R≤57)∨(57<R∧R<95)∨(95≤R∧R≤95)∨(96≤R∧R≤96)∨(97≤R∧R≤122)∨122<R:=by omega
 rcases key with h | h | h | h | h | h | h
 all_goals
  first
   | (have hT:Hid (nameByte _=true):=hide (nameByte_true (c:=R) (by omega)))
   | (have hT:Hid (nameByte _=false):=hide (nameByte_false (c:=R) (by omega)))
  first | (have hb:((R:Int) == 95)=false:=by simp;omega) | (have hb:((R:Int) == 95)=true:=by simp;omega)
  go_enter Tryz.func135,Tryz.ntmps135
  go_wp2
  go_ret
  exact ⟨ret_eq (by rw [hT.out];first | rfl | (simp;omega)),rfl⟩

theorem get_str (s:Str) (i:Nat) (h:i<s.length):(strB s).get! i=s[i]:=by
 simp [strB,ByteArray.get!,h]
theorem decode_name (s:Str) (i:Nat) (h:i<s.length):(nameByte (Utf8.decode (strB s) i).1=nameByte s[i].toNat)∧(nameByte s[i].toNat=true→(Utf8.decode (strB s) i).2=1):=by
 have hg:(strB s).get! (i+0)=s[i]:=get_str s i h
 unfold Utf8.decode
 simp only [hg]
 by_cases h0:s[i].toNat<128
 ·rw [if_pos h0];exact ⟨rfl,fun _=>rfl⟩
 ·rw [if_neg h0]
  have hn:nameByte s[i].toNat=false:=nameByte_false (by omega)
  refine ⟨?_,fun h=>by rw [hn] at h;cases h⟩
  rw [hn]
  split
  ·split
   ·exact nameByte_false (by omega)
   ·exact nameByte_false (by unfold Utf8.runeError;omega)
  ·split
   ·split
    ·rename_i hc
     simp only [Bool.and_eq_true,decide_eq_true_eq] at hc
     exact nameByte_false (by omega)
    ·exact nameByte_false (by unfold Utf8.runeError;omega)
   ·split
    ·split
     ·rename_i hc
      simp only [Bool.and_eq_true,decide_eq_true_eq] at hc
      exact nameByte_false (by omega)
     ·exact nameByte_false (by unfold Utf8.runeError;omega)
    ·exact nameByte_false (by unfold Utf8.runeError;omega)

def OtherPost (s:Str) (w:World) (e:Ending) (w':World):Prop:=(∃ z:Int,e=.returned (.int .i64 z)∧decide (z<0)=s.all (fun c=>nameByte c.toNat))∧Below w.heap.size w w'
set_option maxHeartbeats 2000000 in
set_option maxRecDepth 20000 in
theorem nameIndex_calls (s:Str) (w:World) (hs:s.length≤maxLen) :
  Calls Tryz.prog 160 #[sv s,.func (.func 135) #[] #[],.bool true] w (OtherPost s w):=by
 unfold maxLen at hs
 have hKs:∀ (x:Array Value) W,(callFunc 135 x).run Tryz.prog W=.ok (.enter 135 x) W:=fun _ _=>by kernel_rfl
 go_enter Tryz.func160,Tryz.ntmps160
 go_wp2
 go_loopg [] s.length (fun g wx=>∃ pos:Nat,wx.heap[w.heap.size]? = some (.stringIter (strB s) pos)∧Below w.heap.size w wx∧s.length≤pos+g∧(∀ c∈s.take pos,nameByte c.toNat=true))
 case atStart=>exact ⟨0,World.iter_heap w (strB s) 0,(Below.refl _ w).alloc (Nat.le_refl _) _,by omega,by simp⟩
 case round =>
  obtain ⟨pos,hit,hbw,hfu,hok⟩:=hrel
  have GB:=hide hbw
  have GN:=hide hok
  have hsz:w.heap.size<wr.heap.size:=(Array.getElem?_eq_some_iff.1 hit).1
  clear hbw hok
  by_cases hp0:pos<s.length
  ·have hp:pos<(strB s).size:=by rw [strB_size];exact hp0
   obtain ⟨g,rfl⟩:∃ g,gk=g+1:=⟨gk - 1,by omega⟩
   have hnx:∀ ty,(Instr.next (.pointer (some ⟨w.heap.size,0,none⟩)) true ty).run Tryz.prog wr=_:=fun ty=>Lib.run_next_any_at wr w.heap.size (strB s) pos ty hit hp
   have hr1:=Lib.rune_le (strB s) pos
   have hwd:=Lib.width_pos (strB s) pos
   have hdn:=decode_name s pos hp0
   obtain ⟨R,hR⟩:∃ R,(Utf8.decode (strB s) pos).1=R:=⟨_,rfl⟩
   obtain ⟨K,hK⟩:∃ K,(Utf8.decode (strB s) pos).2=K:=⟨_,rfl⟩
   rw [hR,hK] at hnx
   rw [hR,hK] at hdn
   rw [hR] at hr1
   rw [hK] at hwd
   have hit2:=Lib.iterAt_heap wr w.heap.size (strB s) pos (pos+K) hit
   have hbw2:=Lib.below_iterAt GB.out (k:=w.heap.size) (Nat.le_refl _) (strB s) (pos+K)
   obtain ⟨W,hWd⟩:∃ W,wr.iterAt w.heap.size (strB s) (pos+K)=W:=⟨_,rfl⟩
   rw [hWd] at hnx hit2 hbw2
   have hWs:w.heap.size<W.heap.size:=(Array.getElem?_eq_some_iff.1 hit2).1
   have cS:=hide (nameOther_calls R W hr1)
   have HDN:=hide hdn
   have HI2:=hide (And.intro hit2 hbw2)
   clear hdn hit hit2 hbw2 hR hK hWd
   cases hx:nameByte R with
   | true =>
    rw [hx] at cS
    have HX:=hide hx
    clear hx
    go_wp2_with (go_at_call 135;refine cS.out.mono ?_;rintro e w' ⟨rfl,rfl⟩)
    go_roundg g
    case measure=>omega
    case rel =>
     have h1:nameByte s[pos].toNat=true:=HDN.out.1.symm.trans HX.out
     have hK1:=HDN.out.2 h1
     subst hK1
     refine ⟨pos+1,HI2.out.1,HI2.out.2,by omega,fun c hc=>?_⟩
     rw [List.take_succ_eq_append_getElem hp0] at hc
     rcases List.mem_append.1 hc with h | h
     ·exact GN.out c h
     ·rw [List.mem_singleton.1 h];exact h1
   | false =>
    rw [hx] at cS
    have HX:=hide hx
    clear hx
    go_wp2_with (go_at_call 135;refine cS.out.mono ?_;rintro e w' ⟨rfl,rfl⟩)
    go_ret
    refine ⟨⟨(pos:Int),rfl,?_⟩,HI2.out.2⟩
    have h1:nameByte s[pos].toNat=false:=HDN.out.1.symm.trans HX.out
    rw [show (s.all fun c=>nameByte c.toNat)=false from List.all_eq_false.2 ⟨s[pos],List.getElem_mem _,by rw [h1];simp⟩]
    simp
  ·have hp:¬ pos<(strB s).size:=by rw [strB_size];exact hp0
   have hnx:∀ ty,(Instr.next (.pointer (some ⟨w.heap.size,0,none⟩)) true ty).run Tryz.prog wr=_:=fun ty=>Lib.run_next_end_at wr w.heap.size (strB s) pos ty hit hp
   clear hit
   go_wp2
   go_ret
   refine ⟨⟨-1,rfl,?_⟩,GB.out⟩
   rw [show (s.all fun c=>nameByte c.toNat)=true from List.all_eq_true.2 fun c hc=>GN.out c (by rw [List.take_of_length_le (by omega)];exact hc)]
   rfl

set_option maxHeartbeats 400000 in
theorem nameIndexS_calls (s:Str) (w:World) (hs:s.length≤maxLen) :
  Calls Tryz.prog 134 #[sv s,.func (.func 135) #[] #[]] w (OtherPost s w):=by
 have HI:=hide (nameIndex_calls s w hs)
 go_enter Tryz.func134,Tryz.ntmps134
 go_wp2_with fail
 refine HI.out.mono ?_
 rintro e w1 ⟨⟨z,rfl,hz⟩,hb⟩
 have HZ:=hide hz
 have HB:=hide hb
 clear hz hb
 go_wp2
 go_ret
 exact ⟨⟨z,rfl,HZ.out⟩,HB.out⟩

set_option maxHeartbeats 1000000 in
theorem name_calls (s:Str) (w:World) (hs:s.length≤maxLen):Calls Tryz.prog 101 #[sv s] w (Gives (.bool (nameB s)) w):=by
 have HI:=hide (nameIndexS_calls s w hs)
 go_enter Tryz.func101,Tryz.ntmps101
 go_wp2_with fail
 refine HI.out.mono ?_
 rintro e w1 ⟨⟨z,rfl,hz⟩,hb⟩
 have HB:=hide hb
 have HN:Hid (nameB s=(decide (z<0) && decide (1≤s.length∧s.length≤12))):=hide (by rw [hz];rfl)
 clear hb hz
 unfold maxLen at hs
 by_cases h1:s.length=0
 ·obtain rfl:s=[]:=List.eq_nil_of_length_eq_zero h1
  go_wp2
  go_ret
  exact ⟨ret_eq (by rw [HN.out];simp),HB.out⟩
 ·have hne:¬ s=[]:=fun e=>h1 (by rw [e];rfl)
  have hne2:s.isEmpty=false:=by cases s;exact absurd rfl hne;rfl
  by_cases h2:s.length≤12
  ·have hd:decide (1≤s.length∧s.length≤12)=true:=decide_eq_true ⟨by omega,h2⟩
   rw [hd,Bool.and_true] at HN
   clear hd
   go_wp2
   go_ret
   exact ⟨ret_eq (by rw [HN.out];rfl),HB.out⟩
  ·have hd:decide (1≤s.length∧s.length≤12)=false:=decide_eq_false fun h=>h2 h.2
   rw [hd,Bool.and_false] at HN
   clear hd
   go_wp2
   go_ret
   exact ⟨ret_eq (by rw [HN.out];rfl),HB.out⟩

set_option maxHeartbeats 1000000 in
theorem refName_calls (s:Str) (w:World) (hs:s.length≤maxLen):Calls Tryz.prog 89 #[sv s] w (fun e w'=>e=.returned (.bool (nameB s))∧w=w'):=by
 unfold maxLen at hs
 go_enter Tryz.func89,Tryz.ntmps89
 go_wp2_with fail
 go_loop [3] (fun i=>∃ (k:Nat),i=.int .i64 k∧k≤s.length∧∀ c∈s.take k,nameByte c.toNat=true) (fun i=>s.length - (intOf i).toNat)
 case atStart=>exact ⟨0,rfl,Nat.zero_le _,by simp⟩
 case round =>
  obtain ⟨k,rfl,hk,hok⟩:=hrel
  have GN:=hide hok
  clear hok
  by_cases hlt:k<s.length
  ·have hx:=UInt8.toNat_lt s[k]
   have HT:Hid (nameByte s[k].toNat=true→∀ c∈s.take (k+1),nameByte c.toNat=true):=hide fun h c hc=>by
    rw [List.take_succ_eq_append_getElem hlt] at hc
    rcases List.mem_append.1 hc with h1 | h1
    ·exact GN.out c h1
    ·rw [List.mem_singleton.1 h1];exact h
   have HN:Hid (nameByte s[k].toNat=false→nameB s=false):=hide fun h=>by
    unfold nameB
    rw [show (s.all fun c=>nameByte c.toNat)=false from List.all_eq_false.2 ⟨s[k],List.getElem_mem _,by rw [h];simp⟩]
    rfl
   have key:s[k].toNat<48∨(48≤s[k].toNat∧s[k].toNat≤57)∨(57<s[k].toNat∧s[k].toNat<95)∨(95≤s[k].toNat∧s[k].toNat≤95)∨(96≤s[k].toNat∧s[k].toNat≤96)∨(97≤s[k].toNat∧s[k].toNat≤122)∨122<s[k].toNat:=by omega
   clear GN
   rcases key with h | h | h | h | h | h | h
   all_goals
    first | (have hb:((s[k].toNat:Int) == 95)=false:=by simp;omega) | (have hb:((s[k].toNat:Int) == 95)=true:=by simp;omega)
    first
     | (have hT:Hid (nameByte s[k].toNat=true):=hide (nameByte_true (by omega)))
     | (have hT:Hid (nameByte s[k].toNat=false):=hide (nameByte_false (by omega)))
    first
     | (have d1:decide ((97:Int)≤(s[k].toNat:Int))=true:=decide_eq_true (by omega);have d2:decide ((s[k].toNat:Int)≤122)=true:=decide_eq_true (by omega))
     | (have d1:decide ((97:Int)≤(s[k].toNat:Int))=true:=decide_eq_true (by omega);have d2:decide ((s[k].toNat:Int)≤122)=false:=decide_eq_false (by omega))
     | (have d1:decide ((97:Int)≤(s[k].toNat:Int))=false:=decide_eq_false (by omega))
    first
     | (have d3:decide ((48:Int)≤(s[k].toNat:Int))=true:=decide_eq_true (by omega);have d4:decide ((s[k].toNat:Int)≤57)=true:=decide_eq_true (by omega))
     | (have d3:decide ((48:Int)≤(s[k].toNat:Int))=true:=decide_eq_true (by omega);have d4:decide ((s[k].toNat:Int)≤57)=false:=decide_eq_false (by omega))
     | (have d3:decide ((48:Int)≤(s[k].toNat:Int))=false:=decide_eq_false (by omega))
    go_wp2_with fail
    first
     | exact ⟨⟨k+1,by go_num,by omega,HT.out hT.out⟩,by simp [intOf];omega⟩
     | (go_ret;exact ⟨ret_eq (by rw [HN.out hT.out];rfl),rfl⟩)
  ·obtain rfl:k=s.length:=by omega
   have HA:Hid ((s.all fun c=>nameByte c.toNat)=true):=hide (List.all_eq_true.2 fun c hc=>GN.out c (by rw [List.take_length];exact hc))
   have HN:Hid (nameB s=decide (1≤s.length∧s.length≤12)):=hide (by unfold nameB;rw [HA.out];rfl)
   by_cases h1:1≤s.length
   ·by_cases h2:s.length≤12
    ·have hd:Hid (decide (1≤s.length∧s.length≤12)=true):=hide (decide_eq_true ⟨h1,h2⟩)
     go_wp2
     go_ret
     exact ⟨ret_eq (by rw [HN.out,hd.out];first | rfl | (simp;omega)),rfl⟩
    ·have hd:Hid (decide (1≤s.length∧s.length≤12)=false):=hide (decide_eq_false fun h=>h2 h.2)
     go_wp2
     go_ret
     exact ⟨ret_eq (by rw [HN.out,hd.out];first | rfl | (simp;omega)),rfl⟩
   ·have hd:Hid (decide (1≤s.length∧s.length≤12)=false):=hide (decide_eq_false fun h=>h1 h.1)
    go_wp2
    go_ret
    exact ⟨ret_eq (by rw [HN.out,hd.out];first | rfl | (simp;omega)),rfl⟩

theorem RF.below' {w w':World} {size n:Nat} {A:Option Addr} {xs:List Value} {B:Nat} (h:RF w (·<B) size A n xs) (hb:Below B w w'):RF w' (·<B) size A n xs:=h.keep fun _ hq=>hb.cell hq
theorem RF.more {w w':World} {size n:Nat} {A:Option Addr} {xs:List Value} (h:RF w (·<w.heap.size) size A n xs) (hb:Below w.heap.size w w'):RF w' (·<w'.heap.size) size A n xs:=(h.below' hb).mono fun _ hk=>Nat.lt_of_lt_of_le hk hb.size

set_option maxHeartbeats 400000 in
theorem namesNot_calls (s:Str) (w:World) (hs:s.length≤maxLen):Calls Tryz.prog 151 #[sv s] w (Gives (.bool (!nameB s)) w):=by
 have HI:=hide (name_calls s w hs)
 go_enter Tryz.func151,Tryz.ntmps151
 go_wp2_with fail
 refine HI.out.mono ?_
 rintro e w1 ⟨rfl,hb⟩
 have HB:=hide hb
 clear hb
 go_wp2
 go_ret
 exact ⟨rfl,HB.out⟩
def namesB (l:List Str):Bool:=decide (l.length≤8) && l.all nameB
set_option maxHeartbeats 1000000 in
theorem names_calls (l:List Str) (A:Option Addr) (c:Nat) (w:World) (hr:RF w (·<w.heap.size) 1 A l.length (l.map sv)) (hz:∀ s∈l,s.length≤maxLen) (hn:l.length≤140737488351232) :
  Calls Tryz.prog 117 #[.slice A l.length c] w (Gives (.bool (namesB l)) w):=by
 have hK:∀ (x:Array Value) W,(callFunc 151 x).run Tryz.prog W=.ok (.enter 151 x) W:=fun _ _=>by kernel_rfl
 have HC:=hide (strF_contains 151 hK l.length A c (fun i=>sv (l.getD i [])) (fun i => !nameB (l.getD i [])) w hn
  (fun h0=>by
   obtain ⟨b,o,e,hb,hc⟩:=hr.2 h0
   exact ⟨b,o,e,hb,fun i hi=>hc i _ (by simp [List.getD,hi])⟩)
  (fun i hi W hW=>namesNot_calls _ W (by
   have:l.getD i []∈l:=by simp [List.getD,hi]
   exact hz _ this)))
 have HP:Hid ((List.range l.length).any (fun i => !nameB (l.getD i [])) = !l.all nameB):=hide (by
  rw [Bool.eq_iff_iff,List.any_eq_true]
  simp only [Bool.not_eq_true',List.all_eq_false,List.mem_range]
  constructor
  ·rintro ⟨i,hi,h⟩
   exact ⟨l.getD i [],by simp [List.getD,hi],by rw [h];simp⟩
  ·rintro ⟨x,hx,h⟩
   obtain ⟨i,hi,rfl⟩:=List.getElem_of_mem hx
   exact ⟨i,hi,by simpa [List.getD,hi] using h⟩)
 rw [HP.out] at HC
 have HN:Hid (namesB l=(decide (l.length≤8) && l.all nameB)):=hide rfl
 clear hr hz hK HP
 generalize l.all nameB=x at *
 by_cases h8:l.length≤8
 ·have hd:decide (l.length≤8)=true:=decide_eq_true h8
  rw [hd,Bool.true_and] at HN
  clear hd
  go_enter Tryz.func117,Tryz.ntmps117
  go_wp2_with fail
  refine HC.out.mono ?_
  rintro e w1 ⟨rfl,hb⟩
  have HB:=hide hb
  clear hb
  go_wp2
  go_ret
  exact ⟨ret_eq (by rw [HN.out];simp),HB.out⟩
 ·have hd:decide (l.length≤8)=false:=decide_eq_false h8
  rw [hd,Bool.false_and] at HN
  clear hd
  go_enter Tryz.func117,Tryz.ntmps117
  go_wp2
  go_ret
  exact ⟨ret_eq (by rw [HN.out];rfl),Below.refl _ _⟩
def risingB (l:List Str):Bool:=sortedB l && unlikeB l
set_option maxHeartbeats 400000 in
theorem rising_calls (l:List Str) (A:Option Addr) (c:Nat) (w:World) (hr:RF w (·<w.heap.size) 1 A l.length (l.map sv)) (hn:l.length≤140737488351232) (hc:l.length≤c) :
  Calls Tryz.prog 119 #[.slice A l.length c] w (Gives (.bool (risingB l)) w):=by
 have HS:=hide (isSorted_calls l A c w hr hn)
 have HR:=hide hr
 have HN:Hid (risingB l=(sortedB l && unlikeB l)):=hide rfl
 clear hr
 cases hx:sortedB l
 all_goals
  rw [hx] at HS HN
  clear hx
  go_enter Tryz.func119,Tryz.ntmps119
  go_wp2_with fail
  refine HS.out.mono ?_
  rintro e w1 ⟨rfl,hb⟩
  have HB:=hide hb
  clear hb
  go_wp2_with fail
 ·go_ret
  exact ⟨ret_eq (by rw [HN.out];rfl),HB.out⟩
 ·refine (unlike_calls l A c _ (HR.out.more HB.out) hn hc).mono ?_
  rintro e w2 ⟨rfl,rfl⟩
  go_wp2
  go_ret
  exact ⟨ret_eq (by rw [HN.out];rfl),HB.out⟩

def riseOk (l:List Str) (i:Nat):Bool:=nameB (l.getD i []) && (decide (i=0) || sLt (l.getD (i - 1) []) (l.getD i []))
def riseV (l:List Str):Bool:=((List.range l.length).all (riseOk l)) && decide (l.length≤8)
set_option maxHeartbeats 1000000 in
theorem riseV_calls (l:List Str) (A:Option Addr) (c:Nat) (w:World) (hr:RF w (·<w.heap.size) 1 A l.length (l.map sv)) (hz:∀ s∈l,s.length≤maxLen) (hn:l.length≤140737488351232) :
  Calls Tryz.prog 174 #[.slice A l.length c] w (Gives (.bool (riseV l)) w):=by
 have HR:=hide hr
 have HZ:=hide hz
 clear hr hz
 go_enter Tryz.func174,Tryz.ntmps174
 go_wp2_with fail
 go_loopw [7] (fun i wr=>∃ (k:Nat),i=.int .i64 k∧k≤l.length∧(∀ r,r<k→riseOk l r=true)∧Below w.heap.size w wr) (fun i _=>l.length - (intOf i).toNat)
 case atStart=>exact ⟨0,rfl,Nat.zero_le _,fun r hr=>by omega,Below.refl _ _⟩
 case round =>
  obtain ⟨k,rfl,hk,hno,hw⟩:=hrel
  obtain ⟨wo,rfl⟩:∃ wo:World,wo=wr:=⟨_,rfl⟩
  have GN:=hide hno
  have GW:=hide hw
  clear hno hw
  by_cases hlt:k<l.length
  ·obtain ⟨b,o,rfl,hb,hcell⟩:=HR.out.at_ hlt
   have hzy:=HZ.out _ (List.getElem_mem hlt)
   obtain ⟨y,hy⟩:∃ y,l[k]=y:=⟨_,rfl⟩
   have hg:l.getD k []=y:=by rw [← hy];simp [List.getD,hlt]
   rw [hy] at hzy hcell
   have c1:wo.cell? ⟨b,o+k,none⟩=some (sv y):=(GW.out.cell (p:=⟨b,o+k,none⟩) hb).trans hcell
   have HOK:Hid (riseOk l k=(nameB y && (decide (k=0) || sLt (l.getD (k - 1) []) y))):=hide (by unfold riseOk;rw [hg])
   have HC:=hide (name_calls y wo hzy)
   have HFL:Hid (riseOk l k=false→riseV l=false):=hide fun h=>by
    unfold riseV
    rw [show (List.range l.length).all (riseOk l)=false from List.all_eq_false.2 ⟨k,List.mem_range.2 hlt,by rw [h];simp⟩,Bool.false_and]
   clear hg hcell hy hzy
   cases hx:nameB y
   ·rw [hx] at HC HOK
    clear hx
    go_wp2_with fail
    refine HC.out.mono ?_
    rintro e w1 ⟨rfl,hb1⟩
    have KW:=hide (GW.out.trans (hb1.mono GW.out.size))
    clear hb1
    go_wp2
    go_ret
    exact ⟨ret_eq (by rw [HFL.out (by rw [HOK.out];rfl)];rfl),KW.out⟩
   ·rw [hx,Bool.true_and] at HOK
    rw [hx] at HC
    clear hx
    by_cases h0:k=0
    ·rw [decide_eq_true h0,Bool.true_or] at HOK
     have h00:¬ (0:Int)<(k:Int):=by omega
     have HK0:=hide h0
     clear h0
     go_wp2_with fail
     refine HC.out.mono ?_
     rintro e w1 ⟨rfl,hb1⟩
     have KW:=hide (GW.out.trans (hb1.mono GW.out.size))
     clear hb1
     go_wp2_with fail
     exact ⟨⟨k+1,by go_num,by omega,fun r hr=>by
      by_cases e:r=k
      ·rw [e,HOK.out]
      ·exact GN.out r (by omega),KW.out⟩,by simp [intOf];omega⟩
    ·rw [decide_eq_false h0,Bool.false_or] at HOK
     obtain ⟨j,rfl⟩:∃ j,k=j+1:=⟨k - 1,by omega⟩
     have hlj:j<l.length:=by omega
     obtain ⟨b',o',he,hb',hcell'⟩:=HR.out.at_ hlj
     obtain ⟨z,hz⟩:∃ z,l[j]=z:=⟨_,rfl⟩
     have hgj:l.getD (j+1 - 1) []=z:=by rw [← hz];simp [List.getD,hlj]
     rw [hgj] at HOK
     rw [hz] at hcell'
     obtain ⟨rfl,rfl⟩:b'=b∧o'=o:=by simpa [eq_comm] using he
     have HP:Hid (∀ W,Below w.heap.size w W→W.cell? ⟨b',o'+j,none⟩=some (sv z)):=hide fun W hW=>(hW.cell (p:=⟨b',o'+j,none⟩) hb').trans hcell'
     have h00:(0:Int)<((j+1:Nat):Int):=by omega
     have hsub:(((j+1:Nat):Int) - 1)=(j:Int):=by omega
     clear h0 hgj hcell' he hz
     cases hx:sLt z y
     ·rw [hx] at HOK
      have hxx:(!Op.bytesLess z y)=true:=by rw [show Op.bytesLess z y=false from hx];rfl
      clear hx
      go_wp2_with fail
      refine HC.out.mono ?_
      rintro e w1 ⟨rfl,hb1⟩
      have KW:=hide (GW.out.trans (hb1.mono GW.out.size))
      clear hb1
      have c2:=HP.out _ KW.out
      go_wp2
      go_ret
      exact ⟨ret_eq (by rw [HFL.out HOK.out];rfl),KW.out⟩
     ·rw [hx] at HOK
      have hxx:(!Op.bytesLess z y)=false:=by rw [show Op.bytesLess z y=true from hx];rfl
      clear hx
      go_wp2_with fail
      refine HC.out.mono ?_
      rintro e w1 ⟨rfl,hb1⟩
      have KW:=hide (GW.out.trans (hb1.mono GW.out.size))
      clear hb1
      have c2:=HP.out _ KW.out
      go_wp2_with fail
      exact ⟨⟨j+1+1,by go_num,by omega,fun r hr=>by
       by_cases e:r=j+1
       ·rw [e,HOK.out]
       ·exact GN.out r (by omega),KW.out⟩,by simp [intOf];omega⟩
  ·obtain rfl:k=l.length:=by omega
   have HE:Hid (riseV l=decide (l.length≤8)):=hide (by
    unfold riseV
    rw [show (List.range l.length).all (riseOk l)=true from List.all_eq_true.2 fun i hi=>GN.out i (List.mem_range.1 hi),Bool.true_and])
   go_wp2
   go_ret
   exact ⟨ret_eq (by rw [HE.out];first | rfl | (simp;done) | (simp;omega) | (simp;rw [Bool.eq_iff_iff];simp;omega) | (rw [Bool.eq_iff_iff];simp;omega) | (simp;rw [Bool.eq_iff_iff];simp)),GW.out⟩

def plainV (v:DVal):Bool :=
 if v.kind=1 then (decide (v.names.length=0) && (decide (v.ids.length=0) && decide (v.parts.length=0))) && (decide (v.s=[]) && (decide (v.n=0) || decide (v.n=1)))
 else if v.kind=2 then (decide (v.names.length=0) && (decide (v.ids.length=0) && decide (v.parts.length=0))) && decide (v.s=[])
 else if v.kind=3 then (decide (v.names.length=0) && (decide (v.ids.length=0) && decide (v.parts.length=0))) && (decide (v.n=0) && decide (v.s.length≤64))
 else if v.kind=4 then (decide (v.names.length=0) && (decide (v.ids.length=0) && decide (v.parts.length=0))) && (decide (v.n=0) && nameB v.s)
 else if v.kind=5 then decide (v.n=0) && (decide (v.s=[]) && (decide (v.ids.length=0) && (decide (v.parts.length=v.names.length) && riseV v.names)))
 else if v.kind=6 then decide (v.n=0) && (decide (v.s=[]) && (decide (v.names.length=0) && (decide (v.parts.length=v.ids.length) && idsB v.ids)))
 else false

set_option maxHeartbeats 4000000 in
set_option maxRecDepth 20000 in
theorem valPlain_calls (s:DVal) (cs:List Value) (w:World) (hs:IsVal w (·<w.heap.size) s cs) :
  Calls Tryz.prog 168 #[.agg cs.toArray] w (Gives (.bool (plainV s)) w):=by
 obtain ⟨hk1,hki⟩:=hs.kind_
 obtain ⟨hn1,hni⟩:=hs.n_
 obtain ⟨hs1,hsl⟩:=hs.s_
 obtain ⟨Aw,cw,hw1,hwr,hwz,hwc,hwm⟩:=hs.names_
 obtain ⟨Ai,ci,hi1,hir,hiz,hic,him⟩:=hs.ids_
 obtain ⟨Ap,cp,C,hp1,hpc,hpm,hP,hA⟩:=hs.partsF
 have HW0:=hide ((Below.refl w.heap.size w).alloc (Nat.le_refl _) (.cells cs.toArray 43))
 have HCN:=hide (fun (W:World)=>name_calls s.s W hsl)
 have HCR:=hide (fun (W:World) (hW:Below w.heap.size w W)=>riseV_calls s.names Aw cw W (hwr.more hW) hwz (by omega))
 have HCU:=hide (fun (W:World) (hW:Below w.heap.size w W)=>ids_calls s.ids Ai ci W (hir.more hW) (by omega) hic)
 have HSP:Hid (plainV s=_):=hide (by unfold plainV;exact rfl)
 clear hs hwr hwz hir hiz hP hA hki hni
 generalize plainV s=res at *
 generalize nameB s.s=bn at *
 generalize riseV s.names=br at *
 generalize idsB s.ids=bu at *
 generalize s.names.length=nn at *
 generalize s.ids.length=ni at *
 generalize s.parts.length=np at *
 generalize s.kind=kd at *
 generalize s.n=num at *
 generalize s.s=x at *
 go_enter Tryz.func168,Tryz.ntmps168
 go_upto_region 1 with fail
 go_cut [3] (fun v wx=>v=.bool (decide (nn=0) && (decide (ni=0) && decide (np=0)))∧wx=w.alloc (.cells cs.toArray 43))
 case first =>
  by_cases h1:nn=0
  ·have e1:((nn:Int) == 0)=true:=by simp [h1]
   have g1:=hide (decide_eq_true h1)
   clear h1
   by_cases h2:ni=0
   ·have e2:((ni:Int) == 0)=true:=by simp [h2]
    have g2:=hide (decide_eq_true h2)
    clear h2
    by_cases h3:np=0
    ·have e3:((np:Int) == 0)=true:=by simp [h3]
     have g3:=hide (decide_eq_true h3)
     clear h3
     go_wp2_with fail
     go_meet
     exact ⟨by rw [g1.out,g2.out,g3.out];rfl,rfl⟩
    ·have e3:((np:Int) == 0)=false:=by simpa using h3
     have g3:=hide (decide_eq_false h3)
     clear h3
     go_wp2_with fail
     go_meet
     exact ⟨by rw [g1.out,g2.out,g3.out];rfl,rfl⟩
   ·have e2:((ni:Int) == 0)=false:=by simpa using h2
    have g2:=hide (decide_eq_false h2)
    clear h2
    go_wp2_with fail
    go_meet
    exact ⟨by rw [g1.out,g2.out];rfl,rfl⟩
  ·have e1:((nn:Int) == 0)=false:=by simpa using h1
   have g1:=hide (decide_eq_false h1)
   clear h1
   go_wp2_with fail
   go_meet
   exact ⟨by rw [g1.out];rfl,rfl⟩
 case rest =>
  obtain ⟨rfl,rfl⟩:=hcut
  have key:kd=1∨kd=2∨kd=3∨kd=4∨kd=5∨kd=6∨(kd ≠ 1∧kd ≠ 2∧kd ≠ 3∧kd ≠ 4∧kd ≠ 5∧kd ≠ 6):=by omega
  rcases key with rfl | rfl | rfl | rfl | rfl | rfl | ⟨n1,n2,n3,n4,n5,n6⟩
  case inr.inr.inr.inr.inr.inr =>
   have e1:(kd == 1)=false:=by simpa using n1
   have e2:(kd == 2)=false:=by simpa using n2
   have e3:(kd == 3)=false:=by simpa using n3
   have e4:(kd == 4)=false:=by simpa using n4
   have e5:(kd == 5)=false:=by simpa using n5
   have e6:(kd == 6)=false:=by simpa using n6
   have HR:Hid (res=false):=hide (by rw [HSP.out];simp [n1,n2,n3,n4,n5,n6])
   clear n1 n2 n3 n4 n5 n6 HSP
   go_wp2
   go_ret
   exact ⟨ret_eq (by rw [HR.out];rfl),HW0.out⟩
  case inl =>
   have HR:Hid (res=((decide (nn=0) && (decide (ni=0) && decide (np=0))) && (decide (x=[]) && (decide (num=0) || decide (num=1))))):=hide (by rw [HSP.out];simp)
   clear HSP
   generalize (decide (nn=0) && (decide (ni=0) && decide (np=0)))=eB at *
   cases eB
   case false =>
    go_wp2
    go_ret
    exact ⟨ret_eq (by rw [HR.out];rfl),HW0.out⟩
   rw [Bool.true_and] at HR
   by_cases hsE:x=[]
   case neg =>
    have fsE:(x == [])=false:=by simpa using hsE
    rw [decide_eq_false hsE] at HR
    clear hsE
    go_wp2
    go_ret
    exact ⟨ret_eq (by rw [HR.out];rfl),HW0.out⟩
   have fsE:(x == [])=true:=by simp [hsE]
   rw [decide_eq_true hsE,Bool.true_and] at HR
   clear hsE
   by_cases hn0:num=0
   ·have fn0:(num == 0)=true:=by simp [hn0]
    rw [decide_eq_true hn0] at HR
    clear hn0
    go_wp2
    go_ret
    exact ⟨ret_eq (by rw [HR.out];rfl),HW0.out⟩
   ·have fn0:(num == 0)=false:=by simpa using hn0
    rw [decide_eq_false hn0] at HR
    clear hn0
    by_cases hn1:num=1
    ·have fn1:(num == 1)=true:=by simp [hn1]
     rw [decide_eq_true hn1] at HR
     clear hn1
     go_wp2
     go_ret
     exact ⟨ret_eq (by rw [HR.out];rfl),HW0.out⟩
    ·have fn1:(num == 1)=false:=by simpa using hn1
     rw [decide_eq_false hn1] at HR
     clear hn1
     go_wp2
     go_ret
     exact ⟨ret_eq (by rw [HR.out];rfl),HW0.out⟩
  case inr.inl =>
   have HR:Hid (res=((decide (nn=0) && (decide (ni=0) && decide (np=0))) && (decide (x=[])))):=hide (by rw [HSP.out];simp)
   clear HSP
   generalize (decide (nn=0) && (decide (ni=0) && decide (np=0)))=eB at *
   cases eB
   case false =>
    go_wp2
    go_ret
    exact ⟨ret_eq (by rw [HR.out];rfl),HW0.out⟩
   rw [Bool.true_and] at HR
   by_cases hsE:x=[]
   ·have fsE:(x == [])=true:=by simp [hsE]
    rw [decide_eq_true hsE] at HR
    clear hsE
    go_wp2
    go_ret
    exact ⟨ret_eq (by rw [HR.out];rfl),HW0.out⟩
   ·have fsE:(x == [])=false:=by simpa using hsE
    rw [decide_eq_false hsE] at HR
    clear hsE
    go_wp2
    go_ret
    exact ⟨ret_eq (by rw [HR.out];rfl),HW0.out⟩
  case inr.inr.inl =>
   have HR:Hid (res=((decide (nn=0) && (decide (ni=0) && decide (np=0))) && (decide (num=0) && decide (x.length≤64)))):=hide (by rw [HSP.out];simp)
   clear HSP
   generalize (decide (nn=0) && (decide (ni=0) && decide (np=0)))=eB at *
   cases eB
   case false =>
    go_wp2
    go_ret
    exact ⟨ret_eq (by rw [HR.out];rfl),HW0.out⟩
   rw [Bool.true_and] at HR
   by_cases hn0:num=0
   case neg =>
    have fn0:(num == 0)=false:=by simpa using hn0
    rw [decide_eq_false hn0] at HR
    clear hn0
    go_wp2
    go_ret
    exact ⟨ret_eq (by rw [HR.out];rfl),HW0.out⟩
   have fn0:(num == 0)=true:=by simp [hn0]
   rw [decide_eq_true hn0,Bool.true_and] at HR
   clear hn0
   by_cases hl64:x.length≤64
   ·have fl64:(x.length:Int)≤64:=by omega
    rw [decide_eq_true hl64] at HR
    clear hl64
    go_wp2
    go_ret
    exact ⟨ret_eq (by rw [HR.out];rfl),HW0.out⟩
   ·have fl64:¬ (x.length:Int)≤64:=by omega
    rw [decide_eq_false hl64] at HR
    clear hl64
    go_wp2
    go_ret
    exact ⟨ret_eq (by rw [HR.out];rfl),HW0.out⟩
  case inr.inr.inr.inl =>
   have HR:Hid (res=((decide (nn=0) && (decide (ni=0) && decide (np=0))) && (decide (num=0) && bn))):=hide (by rw [HSP.out];simp)
   clear HSP
   generalize (decide (nn=0) && (decide (ni=0) && decide (np=0)))=eB at *
   cases eB
   case false =>
    go_wp2
    go_ret
    exact ⟨ret_eq (by rw [HR.out];rfl),HW0.out⟩
   rw [Bool.true_and] at HR
   by_cases hn0:num=0
   case neg =>
    have fn0:(num == 0)=false:=by simpa using hn0
    rw [decide_eq_false hn0] at HR
    clear hn0
    go_wp2
    go_ret
    exact ⟨ret_eq (by rw [HR.out];rfl),HW0.out⟩
   have fn0:(num == 0)=true:=by simp [hn0]
   rw [decide_eq_true hn0,Bool.true_and] at HR
   clear hn0
   go_wp2_with fail
   refine (HCN.out _).mono ?_
   rintro e w1 ⟨rfl,hb1⟩
   have HB1:=hide (HW0.out.trans (hb1.mono HW0.out.size))
   clear hb1
   go_wp2
   go_ret
   exact ⟨ret_eq (by rw [HR.out] <;> rfl),HB1.out⟩
  case inr.inr.inr.inr.inl =>
   have HR:Hid (res=(decide (num=0) && (decide (x=[]) && (decide (ni=0) && (decide (np=nn) && br))))):=hide (by rw [HSP.out];simp)
   clear HSP
   generalize (decide (nn=0) && (decide (ni=0) && decide (np=0)))=eB at *
   by_cases hn0:num=0
   case neg =>
    have fn0:(num == 0)=false:=by simpa using hn0
    rw [decide_eq_false hn0] at HR
    clear hn0
    go_wp2
    go_ret
    exact ⟨ret_eq (by rw [HR.out];rfl),HW0.out⟩
   have fn0:(num == 0)=true:=by simp [hn0]
   rw [decide_eq_true hn0,Bool.true_and] at HR
   clear hn0
   by_cases hsE:x=[]
   case neg =>
    have fsE:(x == [])=false:=by simpa using hsE
    rw [decide_eq_false hsE] at HR
    clear hsE
    go_wp2
    go_ret
    exact ⟨ret_eq (by rw [HR.out];rfl),HW0.out⟩
   have fsE:(x == [])=true:=by simp [hsE]
   rw [decide_eq_true hsE,Bool.true_and] at HR
   clear hsE
   by_cases hiE:ni=0
   case neg =>
    have fiE:((ni:Int) == 0)=false:=by simpa using hiE
    rw [decide_eq_false hiE] at HR
    clear hiE
    go_wp2
    go_ret
    exact ⟨ret_eq (by rw [HR.out];rfl),HW0.out⟩
   have fiE:((ni:Int) == 0)=true:=by simp [hiE]
   rw [decide_eq_true hiE,Bool.true_and] at HR
   clear hiE
   by_cases hpn:np=nn
   case neg =>
    have fpn:((np:Int) == (nn:Int))=false:=by simp;omega
    rw [decide_eq_false hpn] at HR
    clear hpn
    go_wp2
    go_ret
    exact ⟨ret_eq (by rw [HR.out];rfl),HW0.out⟩
   have fpn:((np:Int) == (nn:Int))=true:=by simp [hpn]
   rw [decide_eq_true hpn,Bool.true_and] at HR
   clear hpn
   go_wp2_with fail
   refine (HCR.out _ HW0.out).mono ?_
   rintro e w1 ⟨rfl,hb1⟩
   have HB1:=hide (HW0.out.trans (hb1.mono HW0.out.size))
   clear hb1
   go_wp2
   go_ret
   exact ⟨ret_eq (by rw [HR.out] <;> rfl),HB1.out⟩
  case inr.inr.inr.inr.inr.inl =>
   have HR:Hid (res=(decide (num=0) && (decide (x=[]) && (decide (nn=0) && (decide (np=ni) && bu))))):=hide (by rw [HSP.out];simp)
   clear HSP
   generalize (decide (nn=0) && (decide (ni=0) && decide (np=0)))=eB at *
   by_cases hn0:num=0
   case neg =>
    have fn0:(num == 0)=false:=by simpa using hn0
    rw [decide_eq_false hn0] at HR
    clear hn0
    go_wp2
    go_ret
    exact ⟨ret_eq (by rw [HR.out];rfl),HW0.out⟩
   have fn0:(num == 0)=true:=by simp [hn0]
   rw [decide_eq_true hn0,Bool.true_and] at HR
   clear hn0
   by_cases hsE:x=[]
   case neg =>
    have fsE:(x == [])=false:=by simpa using hsE
    rw [decide_eq_false hsE] at HR
    clear hsE
    go_wp2
    go_ret
    exact ⟨ret_eq (by rw [HR.out];rfl),HW0.out⟩
   have fsE:(x == [])=true:=by simp [hsE]
   rw [decide_eq_true hsE,Bool.true_and] at HR
   clear hsE
   by_cases hnE:nn=0
   case neg =>
    have fnE:((nn:Int) == 0)=false:=by simpa using hnE
    rw [decide_eq_false hnE] at HR
    clear hnE
    go_wp2
    go_ret
    exact ⟨ret_eq (by rw [HR.out];rfl),HW0.out⟩
   have fnE:((nn:Int) == 0)=true:=by simp [hnE]
   rw [decide_eq_true hnE,Bool.true_and] at HR
   clear hnE
   by_cases hpi:np=ni
   case neg =>
    have fpi:((np:Int) == (ni:Int))=false:=by simp;omega
    rw [decide_eq_false hpi] at HR
    clear hpi
    go_wp2
    go_ret
    exact ⟨ret_eq (by rw [HR.out];rfl),HW0.out⟩
   have fpi:((np:Int) == (ni:Int))=true:=by simp [hpi]
   rw [decide_eq_true hpi,Bool.true_and] at HR
   clear hpi
   go_wp2_with fail
   refine (HCU.out _ HW0.out).mono ?_
   rintro e w1 ⟨rfl,rfl⟩
   go_wp2
   go_ret
   exact ⟨ret_eq (by rw [HR.out] <;> rfl),HW0.out⟩

set_option maxHeartbeats 1000000 in
set_option maxRecDepth 20000 in
theorem refSchDepth_calls (k:Nat):∀ (s:DSch) (cs:List Value) (w:World),s.depth≤k→k≤1000000→IsSch w (·<w.heap.size) s cs →
  Calls Tryz.prog 63 #[.agg cs.toArray] w (Gives (.int .i64 s.depth) w):=by
 induction k with
 | zero=>intro s cs w h;have:=s.depth_pos;omega
 | succ k ih =>
  intro s cs w hk hkk hs
  obtain ⟨Ap,cp,hc,hcp,hmp,hA⟩:=hs.parts_
  have HI:=hide ih
  have HA:=hide hA
  have HS:=hide hs
  have HD:=hide s.depth_eq
  have hdp:=s.depth_eq
  have HB0:=hide (Blk.new w 25 cs.toArray)
  have HW0:=hide ((Below.refl w.heap.size w).alloc (Nat.le_refl _) (.cells cs.toArray 25))
  have HP:=hide (fun p (h:p∈s.parts)=>DSch.depth_part h)
  clear ih hA hs
  go_enter Tryz.func63,Tryz.ntmps63
  go_wp2_with fail
  go_loopw [3,4] (fun nv iv wr=>∃ (i:Nat),iv=.int .i64 i∧i≤s.parts.length∧nv=.int .i64 ((DSch.depths (s.parts.take i):Nat)+1:Int)∧Blk wr w.heap.size 25 cs.toArray∧Below w.heap.size w wr) (fun _ iv _=>s.parts.length - (intOf iv).toNat)
  case atStart=>exact ⟨0,rfl,Nat.zero_le _,rfl,HB0.out,HW0.out⟩
  case round =>
   obtain ⟨i,rfl,hi,rfl,hblk,hw⟩:=hrel
   obtain ⟨wo,rfl⟩:∃ wo:World,wo=wr:=⟨_,rfl⟩
   have GW:=hide hw
   have GB:=hide hblk
   clear hw hblk HB0 HW0
   have hle:=DSch.depths_le s.parts i
   have cf:wo.cell? ⟨w.heap.size,2,none⟩=cs[2]? := by have:=GB.out.cell 2;simpa using this
   rw [hc] at cf
   by_cases hlt:i<s.parts.length
   ·obtain ⟨b,o,rfl,hb,hC⟩:=HA.out (by omega)
    obtain ⟨C,hl3,hr,hpi⟩:=hC i _ (List.getElem?_eq_getElem hlt)
    have HRW:Hid (wo.rangeAt b (o+i * 3) C):=hide fun q v hv=>(GW.out.cell (p:=⟨b,o+i * 3+q,none⟩) hb).trans (hr q v hv)
    have HL3:=hide hl3
    have HPI:=hide hpi
    have HT:=hide (DSch.depths_take s.parts i hlt)
    have hpd:=HP.out _ (List.getElem_mem hlt)
    clear hC hl3 hr hpi
    generalize s.parts[i]=p at *
    generalize DSch.depths (s.parts.take i)=m at *
    go_wp2_with (first
     | (refine wpList_load_mid rfl 25 _ rfl b (o+i * 3) rfl C _ HRW.out rfl rfl (by rw [HL3.out];kernel_rfl) ?_)
     | fail)
    refine (HI.out p C _ (by omega) (by omega) (HPI.out.more GW.out)).mono ?_
    rintro e w1 ⟨rfl,hb1⟩
    have KB:=hide (GB.out.below hb1 GB.out.lt)
    have KW:=hide (GW.out.trans (hb1.mono GW.out.size))
    clear hb1
    by_cases hgt:m<p.depth
    ·go_wp2_with fail
     exact ⟨⟨i+1,by go_num,by omega,by rw [HT.out,Nat.max_eq_right (by omega)],KB.out,KW.out⟩,by simp [intOf];omega⟩
    ·go_wp2_with fail
     exact ⟨⟨i+1,by go_num,by omega,by rw [HT.out,Nat.max_eq_left (by omega)],KB.out,KW.out⟩,by simp [intOf];omega⟩
   ·have HE:Hid (((DSch.depths (s.parts.take i):Nat):Int)+1=(s.depth:Int)):=hide (by rw [List.take_of_length_le (by omega),HD.out];rfl)
    generalize DSch.depths (s.parts.take i)=m at *
    go_wp2
    go_ret
    exact ⟨ret_eq (by rw [← HE.out];rfl),GW.out⟩

set_option maxHeartbeats 1000000 in
set_option maxRecDepth 20000 in
theorem schEqualF (K:Nat) (hK:∀ (x:Array Value) W,(callFunc K x).run Tryz.prog W=.ok (.enter K x) W) (n m:Nat) (A A2:Option Addr) (c c2:Nat) (V V2:Nat→Value) (p:Nat→Bool) (w:World) (hn:n≤140737488351232) (hm:m≤140737488351232)
  (hA:0<n→∃ b o,A=some ⟨b,o,none⟩∧b<w.heap.size∧∀ i,i<n→∃ cs:List Value,V i=.agg cs.toArray∧cs.length=3∧(∀ v∈cs,v.oneCell'=true)∧w.rangeAt b (o+i * 3) cs)
  (hA2:0<m→∃ b o,A2=some ⟨b,o,none⟩∧b<w.heap.size∧∀ i,i<m→∃ cs:List Value,V2 i=.agg cs.toArray∧cs.length=3∧(∀ v∈cs,v.oneCell'=true)∧w.rangeAt b (o+i * 3) cs)
  (hcall:n=m→∀ i,i<n→∀ W,Below w.heap.size w W→Calls Tryz.prog K #[V i,V2 i] W (Gives (.bool (p i)) W)) :
  Calls Tryz.prog 142 #[.slice A n c,.slice A2 m c2,.func (.func K) #[] #[]] w (Gives (.bool (decide (n=m) && (List.range n).all p)) w):=by
 have HA:=hide hA
 have HA2:=hide hA2
 have HC:=hide hcall
 clear hA hA2 hcall
 by_cases hlen:n=m
 ·subst hlen
  have hne:((n:Int) != (n:Int))=false:=by simp
  have HC':=hide (HC.out rfl)
  clear HC
  go_enter Tryz.func142,Tryz.ntmps142
  go_wp2_with fail
  go_loopw [17] (fun i wr=>∃ (k:Nat),i=.int .i64 k∧k≤n∧(∀ r,r<k→p r=true)∧Below w.heap.size w wr) (fun i _=>n - (intOf i).toNat)
  case atStart=>exact ⟨0,rfl,Nat.zero_le _,fun r hr=>by omega,Below.refl _ _⟩
  case round =>
   obtain ⟨k,rfl,hk,hno,hw⟩:=hrel
   obtain ⟨wo,rfl⟩:∃ wo:World,wo=wr:=⟨_,rfl⟩
   have GW:=hide hw
   have GN:=hide hno
   clear hw hno
   by_cases hlt:k<n
   ·obtain ⟨b,o,rfl,hb,hV⟩:=HA.out (by omega)
    obtain ⟨b2,o2,rfl,hb2,hV2⟩:=HA2.out (by omega)
    have hcall':=HC'.out k hlt
    obtain ⟨cs,hv,hc3,ho1,hr⟩:=hV k hlt
    obtain ⟨ds,hv2,hd3,ho2,hr2⟩:=hV2 k hlt
    have HRW:Hid (∀ W,Below w.heap.size w W→W.rangeAt b (o+k * 3) cs):=hide fun W hW q v hv=>(hW.cell (p:=⟨b,o+k * 3+q,none⟩) hb).trans (hr q v hv)
    have HRW2:Hid (∀ W,Below w.heap.size w W→W.rangeAt b2 (o2+k * 3) ds):=hide fun W hW q v hv=>(hW.cell (p:=⟨b2,o2+k * 3+q,none⟩) hb2).trans (hr2 q v hv)
    have HC3:=hide hc3
    have HD3:=hide hd3
    have hst:=fun (W:World)=>run_store_new (P:=Tryz.prog) W 25 [.int .i64 0,.slice none 0 0,.slice none 0 0] cs (by rw [hc3];rfl) ho1
    have hst2:∀ (W:World) (ob:Obj),(storeCells ⟨W.heap.size+1,0,none⟩ ds).run Tryz.prog ((W.alloc ob).alloc (.cells ([.int .i64 0,.slice none 0 0,.slice none 0 0]:List Value).toArray 25))=.ok () ((W.alloc ob).alloc (.cells ds.toArray 25)):=fun W ob=>by have:=run_store_new (P:=Tryz.prog) (W.alloc ob) 25 [.int .i64 0,.slice none 0 0,.slice none 0 0] ds (by rw [hd3];rfl) ho2;rwa [World.size_alloc] at this
    have G1:=hide (GW.out.alloc GW.out.size (.cells cs.toArray 25))
    have G2:=hide (G1.out.alloc G1.out.size (.cells ds.toArray 25))
    have HE1:=hide ((Blk.new wo 25 cs.toArray).alloc (.cells ds.toArray 25))
    rw [hv,hv2] at hcall'
    have HCL:=hide hcall'
    clear hr hr2 hc3 hd3 hcall' hV hV2 ho1 ho2
    cases hx:p k
    all_goals
     have HX:=hide hx
     rw [hx] at HCL
     clear hx
     have hst1:=fun (W:World)=>Blk.new2 W (.cells cs.toArray 25) 25 ds.toArray
     go_wp2_with (first
      | (refine wpList_load_mid rfl 25 _ rfl b (o+k * 3) rfl cs _ (HRW.out _ GW.out) rfl rfl (by rw [HC3.out];kernel_rfl) ?_)
      | (refine wpList_load_mid rfl 25 _ rfl b2 (o2+k * 3) rfl ds _ (HRW2.out _ G1.out) rfl rfl (by rw [HD3.out];kernel_rfl) ?_)
      | (refine wpList_load_blk rfl 25 _ rfl wo.heap.size rfl _ cs.toArray HE1.out _ rfl rfl (by rw [List.size_toArray,HC3.out];kernel_rfl) ?_)
      | (refine wpList_load_blk rfl 25 _ rfl (wo.heap.size+1) rfl _ ds.toArray (hst1 _) _ rfl rfl (by rw [List.size_toArray,HD3.out];kernel_rfl) ?_)
      | fail)
     refine (HCL.out _ G2.out).mono ?_
     rintro e w1 ⟨rfl,hb1⟩
     have KW:=hide (G2.out.trans (hb1.mono G2.out.size))
     clear hb1
    ·go_wp2
     go_ret
     exact ⟨ret_eq (by rw [show (List.range n).all p=false from List.all_eq_false.2 ⟨k,List.mem_range.2 hlt,by rw [HX.out];simp⟩];simp),KW.out⟩
    ·go_wp2_with fail
     exact ⟨⟨k+1,by go_num,by omega,fun r hr=>by
      by_cases e:r=k
      ·rw [e];exact HX.out
      ·exact GN.out r (by omega),KW.out⟩,by simp [intOf];omega⟩
   ·obtain rfl:k=n:=by omega
    go_wp2
    go_ret
    exact ⟨ret_eq (by rw [show (List.range k).all p=true from List.all_eq_true.2 fun i hi=>GN.out i (List.mem_range.1 hi)];simp),GW.out⟩
 ·have hne:((n:Int) != (m:Int))=true:=by simp;omega
  have HD:Hid ((decide (n=m) && (List.range n).all p)=false):=hide (by rw [decide_eq_false hlen];rfl)
  clear hlen
  go_enter Tryz.func142,Tryz.ntmps142
  go_wp2
  go_ret
  exact ⟨ret_eq (by rw [HD.out];rfl),Below.refl _ _⟩


instance : Inhabited DSch:=⟨.mk 0 [] []⟩
theorem schEq_split (a b:DSch):eqB a b=(decide (a.kind=b.kind) && (decide (a.words=b.words) && eqB a.parts b.parts)):=by
 rw [Bool.eq_iff_iff]
 simp only [Bool.and_eq_true,decide_eq_true_eq,eqB_iff]
 exact DSch.ext_iff' a b

set_option maxHeartbeats 1000000 in
set_option maxRecDepth 20000 in
theorem schSame_calls (k:Nat):∀ (a b:DSch) (cs ds:List Value) (w:World),a.depth≤k→IsSch w (·<w.heap.size) a cs→IsSch w (·<w.heap.size) b ds →
  Calls Tryz.prog 108 #[.agg cs.toArray,.agg ds.toArray] w (Gives (.bool (eqB a b)) w):=by
 induction k with
 | zero=>intro a b cs ds w h;have:=a.depth_pos;omega
 | succ k ih =>
  intro a b cs ds w hk ha hb
  obtain ⟨hk1,hki⟩:=ha.kind_
  obtain ⟨hk2,hki2⟩:=hb.kind_
  obtain ⟨Aw,cw,hw1,hwr,hwz,hwc,hwm⟩:=ha.words_
  obtain ⟨Aw2,cw2,hw2,hwr2,hwz2,hwc2,hwm2⟩:=hb.words_
  obtain ⟨Ap,cp,C,hp1,hpc,hpm,hP,hA⟩:=ha.partsF
  obtain ⟨Ap2,cp2,C2,hp2,hpc2,hpm2,hP2,hA2⟩:=hb.partsF
  have HW0:=hide (((Below.refl w.heap.size w).alloc (Nat.le_refl _) (.cells cs.toArray 25)).alloc (by simp) (.cells ds.toArray 25))
  have hK:∀ (x:Array Value) W,(callFunc 108 x).run Tryz.prog W=.ok (.enter 108 x) W:=fun _ _=>by kernel_rfl
  have HSP:=hide (schEq_split a b)
  have HCW:=hide (fun (W:World) (hW:Below w.heap.size w W)=>strEqual_calls a.words b.words Aw Aw2 cw cw2 W ((hwr.more hW)) ((hwr2.more hW)) (by omega) (by omega))
  have HCP:Hid (∀ W:World,Below w.heap.size w W→Calls Tryz.prog 142 #[.slice Ap a.parts.length cp,.slice Ap2 b.parts.length cp2,.func (.func 108) #[] #[]] W (Gives (.bool (eqB a.parts b.parts)) W)):=hide fun W hW=>by
   have:=schEqualF 108 hK a.parts.length b.parts.length Ap Ap2 cp cp2 (fun i=>.agg (C i).toArray) (fun i=>.agg (C2 i).toArray) (fun i=>eqB (a.parts.getD i default) (b.parts.getD i default)) W (by omega) (by omega)
    (fun h0=>by
     obtain ⟨x,o,e,hx,hc⟩:=hA h0
     exact ⟨x,o,e,Nat.lt_of_lt_of_le hx hW.size,fun i hi=>⟨C i,rfl,(hc i hi).1,(hP i _ (List.getElem?_eq_getElem hi)).one,fun q v hv=>(hW.cell (p:=⟨x,o+i * 3+q,none⟩) hx).trans ((hc i hi).2 q v hv)⟩⟩)
    (fun h0=>by
     obtain ⟨x,o,e,hx,hc⟩:=hA2 h0
     exact ⟨x,o,e,Nat.lt_of_lt_of_le hx hW.size,fun i hi=>⟨C2 i,rfl,(hc i hi).1,(hP2 i _ (List.getElem?_eq_getElem hi)).one,fun q v hv=>(hW.cell (p:=⟨x,o+i * 3+q,none⟩) hx).trans ((hc i hi).2 q v hv)⟩⟩)
    (fun hnm i hi W2 hW2=>by
     have hi2:i<b.parts.length:=by omega
     have e1:a.parts.getD i default=a.parts[i]:=by simp [List.getD,hi]
     have e2:b.parts.getD i default=b.parts[i]:=by simp [List.getD,hi2]
     have hWW:=hW.trans (hW2.mono hW.size)
     have hd:=DSch.depth_part (List.getElem_mem hi)
     simp only [e1,e2]
     exact ih _ _ _ _ W2 (by omega) ((hP i _ (List.getElem?_eq_getElem hi)).more hWW) ((hP2 i _ (List.getElem?_eq_getElem hi2)).more hWW))
   rwa [eqB_list] at this
  clear ih ha hb hA hA2 hP hP2 hwr hwr2 hwz hwz2 hK
  by_cases h1:a.kind=b.kind
  ·have hkk:(a.kind == b.kind)=true:=by simpa using h1
   rw [decide_eq_true h1,Bool.true_and] at HSP
   have H1:=hide h1
   clear h1
   cases h2:decide (a.words=b.words)
   all_goals
    rw [h2] at HCW HSP
    clear h2
    go_enter Tryz.func108,Tryz.ntmps108
    go_wp2_with fail
    refine (HCW.out _ HW0.out).mono ?_
    rintro e w1 ⟨rfl,hb1⟩
    have HB1:=hide (HW0.out.trans (hb1.mono HW0.out.size))
    have HX2:=hide (((Blk.new w 25 cs.toArray).alloc (.cells ds.toArray 25)).below hb1 (by simp;omega))
    have HX3:=hide ((Blk.new2 w (.cells cs.toArray 25) 25 ds.toArray).below hb1 (by simp))
    clear hb1
   ·go_wp2
    go_ret
    exact ⟨ret_eq (by rw [HSP.out];rfl),HB1.out⟩
   ·have c2:w1.cell? ⟨w.heap.size,2,none⟩=some (.slice Ap a.parts.length cp):=by rw [HX2.out.cell];simpa using hp1
    have c3:w1.cell? ⟨w.heap.size+1,2,none⟩=some (.slice Ap2 b.parts.length cp2):=by rw [HX3.out.cell];simpa using hp2
    go_wp2_with fail
    refine (HCP.out _ HB1.out).mono ?_
    rintro e w2 ⟨rfl,hb2⟩
    have HB2:=hide (HB1.out.trans (hb2.mono HB1.out.size))
    clear hb2
    generalize eqB a.parts b.parts=x at *
    go_wp2
    go_ret
    exact ⟨ret_eq (by rw [HSP.out];simp),HB2.out⟩
  ·have hkk:(a.kind == b.kind)=false:=by simpa using h1
   rw [decide_eq_false h1,Bool.false_and] at HSP
   clear h1
   go_enter Tryz.func108,Tryz.ntmps108
   go_wp2
   go_ret
   exact ⟨ret_eq (by rw [HSP.out];rfl),HW0.out⟩

set_option maxHeartbeats 1000000 in
set_option maxRecDepth 20000 in
theorem schG_index (K:Nat) (cap0:Value) (hK:∀ (x:Array Value) W,(callFunc K x).run Tryz.prog W=.ok (.enter K x) W) (n:Nat) (A:Option Addr) (c:Nat) (V:Nat→Value) (p:Nat→Bool) (w:World) (hn:n≤140737488351232)
  (hA:0<n→∃ b o,A=some ⟨b,o,none⟩∧b<w.heap.size∧∀ i,i<n→∃ cs:List Value,V i=.agg cs.toArray∧cs.length=3∧w.rangeAt b (o+i * 3) cs)
  (hcall:∀ i,i<n→∀ W,Below w.heap.size w W→Calls Tryz.prog K #[V i,cap0] W (Gives (.bool (p i)) W)) :
  Calls Tryz.prog 120 #[.slice A n c,.func (.func K) #[] #[cap0]] w (IdxPost p n w):=by
 have HA:=hide hA
 have HC:=hide hcall
 clear hA hcall
 go_enter Tryz.func120,Tryz.ntmps120
 go_wp2_with fail
 go_loopw [8] (fun i wr=>∃ (k:Nat),i=.int .i64 k∧k≤n∧(∀ r,r<k→p r=false)∧Below w.heap.size w wr) (fun i _=>n - (intOf i).toNat)
 case atStart=>exact ⟨0,rfl,Nat.zero_le _,fun r hr=>by omega,Below.refl _ _⟩
 case round =>
  obtain ⟨k,rfl,hk,hno,hw⟩:=hrel
  obtain ⟨wo,rfl⟩:∃ wo:World,wo=wr:=⟨_,rfl⟩
  have GW:=hide hw
  have GN:=hide hno
  clear hw hno
  by_cases hlt:k<n
  ·obtain ⟨b,o,rfl,hb,hV⟩:=HA.out (by omega)
   have hcall':=HC.out k hlt
   obtain ⟨cs,hv,hc3,hr⟩:=hV k hlt
   have HRW:Hid (wo.rangeAt b (o+k * 3) cs):=hide fun q v hv=>(GW.out.cell (p:=⟨b,o+k * 3+q,none⟩) hb).trans (hr q v hv)
   have HC3:=hide hc3
   clear hr hc3
   cases hx:p k
   all_goals
    have HX:=hide hx
    rw [hx] at hcall'
    clear hx hV
    rw [hv] at hcall'

    have HCL:=hide hcall'
    clear hcall'
    go_wp2_with (first | (refine wpList_load_mid rfl 25 _ rfl b (o+k * 3) rfl cs _ HRW.out rfl rfl (by rw [HC3.out];kernel_rfl) ?_) | fail)
    refine (HCL.out _ GW.out).mono ?_
    rintro e w1 ⟨rfl,hb1⟩
    have KW:=hide (GW.out.trans (hb1.mono GW.out.size))
    clear hb1
   ·go_wp2_with fail
    exact ⟨⟨k+1,by go_num,by omega,fun r hr=>by
     by_cases e:r=k
     ·rw [e];exact HX.out
     ·exact GN.out r (by omega),KW.out⟩,by simp [intOf];omega⟩
   ·go_wp2
    go_ret
    exact ⟨.inl ⟨k,hlt,rfl,HX.out,GN.out⟩,KW.out⟩
  ·obtain rfl:k=n:=by omega
   go_wp2
   go_ret
   exact ⟨.inr ⟨rfl,GN.out⟩,GW.out⟩

set_option maxHeartbeats 400000 in
theorem schG_contains (K:Nat) (cap0:Value) (hK:∀ (x:Array Value) W,(callFunc K x).run Tryz.prog W=.ok (.enter K x) W) (n:Nat) (A:Option Addr) (c:Nat) (V:Nat→Value) (p:Nat→Bool) (w:World) (hn:n≤140737488351232)
  (hA:0<n→∃ b o,A=some ⟨b,o,none⟩∧b<w.heap.size∧∀ i,i<n→∃ cs:List Value,V i=.agg cs.toArray∧cs.length=3∧w.rangeAt b (o+i * 3) cs)
  (hcall:∀ i,i<n→∀ W,Below w.heap.size w W→Calls Tryz.prog K #[V i,cap0] W (Gives (.bool (p i)) W)) :
  Calls Tryz.prog 84 #[.slice A n c,.func (.func K) #[] #[cap0]] w (Gives (.bool ((List.range n).any p)) w):=by
 have HI:=hide (schG_index K cap0 hK n A c V p w hn hA hcall)
 clear hA hcall hK
 go_enter Tryz.func84,Tryz.ntmps84
 go_wp2_with fail
 refine HI.out.mono ?_
 rintro e w1 ⟨hi,hb⟩
 have HB:=hide hb
 clear hb
 rcases hi with ⟨k,hk,rfl,hp,hno⟩ | ⟨rfl,hno⟩
 ·have hx:(List.range n).any p=true:=List.any_eq_true.2 ⟨k,List.mem_range.2 hk,hp⟩
  have HX:=hide hx
  clear hx hp hno
  go_wp2
  go_ret
  exact ⟨ret_eq (by rw [HX.out];rfl),HB.out⟩
 ·have hx:(List.range n).any p=false:=List.any_eq_false.2 fun r hr=>by simp [hno r (List.mem_range.1 hr)]
  have HX:=hide hx
  clear hx hno
  go_wp2
  go_ret
  exact ⟨ret_eq (by rw [HX.out];rfl),HB.out⟩


def plainS (s:DSch):Bool :=
 if s.kind=1∨s.kind=2∨s.kind=3 then decide (s.words.length=0) && decide (s.parts.length=0)
 else if s.kind=4 then decide (0<s.words.length) && (namesB s.words && (unlikeB s.words && decide (s.parts.length=0)))
 else if s.kind=5 then namesB s.words && (risingB s.words && decide (s.parts.length=s.words.length))
 else if s.kind=6 then decide (s.words.length=0) && decide (s.parts.length=1)
 else false
def rightS:Nat→DSch→Bool
 | 0,_=>false
 | k+1,s=>plainS s && s.parts.all (rightS k)

set_option maxHeartbeats 2000000 in
set_option maxRecDepth 20000 in
theorem schPlain_calls (s:DSch) (cs:List Value) (w:World) (hs:IsSch w (·<w.heap.size) s cs) :
  Calls Tryz.prog 83 #[.agg cs.toArray] w (Gives (.bool (plainS s)) w):=by
 obtain ⟨hk1,hki⟩:=hs.kind_
 obtain ⟨Aw,cw,hw1,hwr,hwz,hwc,hwm⟩:=hs.words_
 obtain ⟨Ap,cp,C,hp1,hpc,hpm,hP,hA⟩:=hs.partsF
 have HW0:=hide ((Below.refl w.heap.size w).alloc (Nat.le_refl _) (.cells cs.toArray 25))
 have HX:=hide (Blk.new w 25 cs.toArray)
 have HCN:=hide (fun (W:World) (hW:Below w.heap.size w W)=>names_calls s.words Aw cw W (hwr.more hW) hwz (by omega))
 have HCU:=hide (fun (W:World) (hW:Below w.heap.size w W)=>unlike_calls s.words Aw cw W (hwr.more hW) (by omega) hwc)
 have HCR:=hide (fun (W:World) (hW:Below w.heap.size w W)=>rising_calls s.words Aw cw W (hwr.more hW) (by omega) hwc)
 have HSP:Hid (plainS s=_):=hide (by unfold plainS;exact rfl)
 have hkb:=i64_wf hki
 clear hs hwr hwz hP hA hki
 generalize plainS s=res at *
 generalize namesB s.words=bn at *
 generalize unlikeB s.words=bu at *
 generalize risingB s.words=br at *
 generalize s.words.length=nw at *
 generalize s.parts.length=np at *
 generalize s.kind=kd at *
 have key:kd=1∨kd=2∨kd=3∨kd=4∨kd=5∨kd=6∨(kd ≠ 1∧kd ≠ 2∧kd ≠ 3∧kd ≠ 4∧kd ≠ 5∧kd ≠ 6):=by omega
 rcases key with rfl | rfl | rfl | rfl | rfl | rfl | ⟨n1,n2,n3,n4,n5,n6⟩
 case inr.inr.inr.inr.inr.inr =>
  have e1:(kd == 1)=false:=by simpa using n1
  have e2:(kd == 2)=false:=by simpa using n2
  have e3:(kd == 3)=false:=by simpa using n3
  have e4:(kd == 4)=false:=by simpa using n4
  have e5:(kd == 5)=false:=by simpa using n5
  have e6:(kd == 6)=false:=by simpa using n6
  have HR:Hid (res=false):=hide (by rw [HSP.out];simp [n1,n2,n3,n4,n5,n6])
  clear n1 n2 n3 n4 n5 n6 HSP
  go_enter Tryz.func83,Tryz.ntmps83
  go_wp2
  go_ret
  exact ⟨ret_eq (by rw [HR.out];rfl),HW0.out⟩
 case inr.inr.inr.inl =>
  have HR:Hid (res=(decide (0<nw) && (bn && (bu && decide (np=0))))):=hide (by rw [HSP.out];simp)
  clear HSP
  by_cases h0:0<nw
  ·rw [decide_eq_true h0,Bool.true_and] at HR
   have h0':decide ((0:Int)<(nw:Int))=true:=by simp;omega
   cases bn
   all_goals
    go_enter Tryz.func83,Tryz.ntmps83
    go_wp2_with fail
    refine (HCN.out _ HW0.out).mono ?_
    rintro e w1 ⟨rfl,hb1⟩
    have HB1:=hide (HW0.out.trans (hb1.mono HW0.out.size))
    have HX1:=hide (HX.out.below hb1 HX.out.lt)
    clear hb1
   ·go_wp2
    go_ret
    exact ⟨ret_eq (by rw [HR.out];rfl),HB1.out⟩
   ·rw [Bool.true_and] at HR
    have c1:w1.cell? ⟨w.heap.size,1,none⟩=some (.slice Aw nw cw):=by rw [HX1.out.cell];simpa using hw1
    have c2:w1.cell? ⟨w.heap.size,2,none⟩=some (.slice Ap np cp):=by rw [HX1.out.cell];simpa using hp1
    cases bu
    all_goals
     go_wp2_with fail
     refine (HCU.out _ HB1.out).mono ?_
     rintro e w2 ⟨rfl,rfl⟩
     go_wp2
     go_ret
     exact ⟨ret_eq (by rw [HR.out];first | rfl | (simp;done) | (simp;omega) | (simp;rw [Bool.eq_iff_iff];simp;omega) | (rw [Bool.eq_iff_iff];simp;omega) | (simp;rw [Bool.eq_iff_iff];simp)),HB1.out⟩
  ·rw [decide_eq_false h0,Bool.false_and] at HR
   have h0':decide ((0:Int)<(nw:Int))=false:=by simp;omega
   go_enter Tryz.func83,Tryz.ntmps83
   go_wp2
   go_ret
   exact ⟨ret_eq (by rw [HR.out];rfl),HW0.out⟩
 case inr.inr.inr.inr.inl =>
  have HR:Hid (res=(bn && (br && decide (np=nw)))):=hide (by rw [HSP.out];simp)
  clear HSP
  cases bn
  all_goals
   go_enter Tryz.func83,Tryz.ntmps83
   go_wp2_with fail
   refine (HCN.out _ HW0.out).mono ?_
   rintro e w1 ⟨rfl,hb1⟩
   have HB1:=hide (HW0.out.trans (hb1.mono HW0.out.size))
   have HX1:=hide (HX.out.below hb1 HX.out.lt)
   clear hb1
  ·go_wp2
   go_ret
   exact ⟨ret_eq (by rw [HR.out];rfl),HB1.out⟩
  ·rw [Bool.true_and] at HR
   have c1:w1.cell? ⟨w.heap.size,1,none⟩=some (.slice Aw nw cw):=by rw [HX1.out.cell];simpa using hw1
   cases br
   all_goals
    go_wp2_with fail
    refine (HCR.out _ HB1.out).mono ?_
    rintro e w2 ⟨rfl,hb2⟩
    have HB2:=hide (HB1.out.trans (hb2.mono HB1.out.size))
    have HX2:=hide (HX1.out.below hb2 HX1.out.lt)
    clear hb2
    have d1:w2.cell? ⟨w.heap.size,1,none⟩=some (.slice Aw nw cw):=by rw [HX2.out.cell];simpa using hw1
    have d2:w2.cell? ⟨w.heap.size,2,none⟩=some (.slice Ap np cp):=by rw [HX2.out.cell];simpa using hp1
    go_wp2
    go_ret
    exact ⟨ret_eq (by rw [HR.out];first | rfl | (simp;done) | (simp;omega) | (simp;rw [Bool.eq_iff_iff];simp;omega) | (rw [Bool.eq_iff_iff];simp;omega) | (simp;rw [Bool.eq_iff_iff];simp)),HB2.out⟩
 case inr.inr.inr.inr.inr.inl =>
  have HR:Hid (res=(decide (nw=0) && decide (np=1))):=hide (by rw [HSP.out];simp)
  clear HSP
  by_cases h0:nw=0
  ·have h0':((nw:Int) == 0)=true:=by simp [h0]
   rw [decide_eq_true h0,Bool.true_and] at HR
   clear h0
   go_enter Tryz.func83,Tryz.ntmps83
   go_wp2
   go_ret
   exact ⟨ret_eq (by rw [HR.out];first | rfl | (simp;done) | (simp;omega) | (simp;rw [Bool.eq_iff_iff];simp;omega) | (rw [Bool.eq_iff_iff];simp;omega) | (simp;rw [Bool.eq_iff_iff];simp)),HW0.out⟩
  ·have h0':((nw:Int) == 0)=false:=by simpa using h0
   rw [decide_eq_false h0,Bool.false_and] at HR
   clear h0
   go_enter Tryz.func83,Tryz.ntmps83
   go_wp2
   go_ret
   exact ⟨ret_eq (by rw [HR.out];first | rfl | (simp;done) | (simp;omega) | (simp;rw [Bool.eq_iff_iff];simp;omega) | (rw [Bool.eq_iff_iff];simp;omega) | (simp;rw [Bool.eq_iff_iff];simp)),HW0.out⟩
 all_goals
  have HR:Hid (res=(decide (nw=0) && decide (np=0))):=hide (by rw [HSP.out];simp)
  clear HSP
  by_cases h0:nw=0
  ·have h0':((nw:Int) == 0)=true:=by simp [h0]
   rw [decide_eq_true h0,Bool.true_and] at HR
   clear h0
   go_enter Tryz.func83,Tryz.ntmps83
   go_wp2
   go_ret
   exact ⟨ret_eq (by rw [HR.out];first | rfl | (simp;done) | (simp;omega) | (simp;rw [Bool.eq_iff_iff];simp;omega) | (rw [Bool.eq_iff_iff];simp;omega) | (simp;rw [Bool.eq_iff_iff];simp)),HW0.out⟩
  ·have h0':((nw:Int) == 0)=false:=by simpa using h0
   rw [decide_eq_false h0,Bool.false_and] at HR
   clear h0
   go_enter Tryz.func83,Tryz.ntmps83
   go_wp2
   go_ret
   exact ⟨ret_eq (by rw [HR.out];first | rfl | (simp;done) | (simp;omega) | (simp;rw [Bool.eq_iff_iff];simp;omega) | (rw [Bool.eq_iff_iff];simp;omega) | (simp;rw [Bool.eq_iff_iff];simp)),HW0.out⟩
end Go.Proofs.YtogbklnkpjjkoaaGreatDoor
