/- Texts of a proof, part 6. Conditions: none. -/
import Derived.Test.YtogbklnkpjjkoaaGreatDoorW5
import Derived.Laws.CopyRow
import Derived.Laws.Externs
import Derived.Stop.BytesEq
import Derived.Shelf.SlSortCmp.Insertion
import Derived.Shelf.SlSortCmp.WholeK
import Derived.Lib.QuietBelow
set_option linter.unusedVariables false
set_option linter.unusedSimpArgs false
namespace Go.Proofs.YtogbklnkpjjkoaaGreatDoor
open Go.RowKit

def SrcOk (S:St) (z:Nat) (d:D) (m:Nat) (news:List D):Prop:=match d with
 | .sl _ es=>(∀ x∈es,x.width=z)∧m=es.length∧news=flat es
 | .win k off n _=>m=n∧(n=0∧news=[]∨∃ t cs,S.ob k=some (.box t cs)∧off+n * z≤cs.length∧news=(cs.drop off).take (n * z))
 | _=>False
theorem srcOk_sl {S:St} {z:Nat} {o:Own} {es:List D} (h:∀ x∈es,x.width=z):SrcOk S z (.sl o es) es.length (flat es):=⟨h,rfl,rfl⟩
theorem srcOk_one {S:St} {z:Nat} {o:Own} {x:D} (h:x.width=z):SrcOk S z (.sl o [x]) 1 (flat [x]):=⟨fun y hy=>by rw [List.mem_singleton] at hy;subst hy;exact h,rfl,rfl⟩
theorem srcOk_win {S:St} {z k off n c:Nat} {t:TypeId} {cs:List D} (hk:S.ob k=some (.box t cs)) (h:off+n * z≤cs.length):SrcOk S z (.win k off n c) n ((cs.drop off).take (n * z)):=⟨rfl,.inr ⟨t,cs,hk,h,rfl⟩⟩
structure SrcAt (w:World) (z:Nat) (v:Value) (m:Nat) (us:List Value):Prop where
 sl:∃ A c,v=.slice A m c∧m≤140737488355328∧((A=none∧m=0)∨∃ a,A=some a∧∀ (j:Nat) u,us[j]? = some u→w.cell? (a.add j)=some u)
 len:us.length=m * z
 one:∀ u∈us,u.oneCell'=true
section
variable {P : Program} {base : Nat} {S : St} {η : Names} {w : World}
theorem take_mul {α:Type} {l:List α} {q m z:Nat} (h:l.length=m * z) (hq:q≤m):(l.take (q * z)).length=q * z:=by
 rw [List.length_take,h]
 exact Nat.min_eq_left (Nat.mul_le_mul_right _ hq)
theorem SrcOk.length {z:Nat} {d:D} {m:Nat} {news:List D} (h:SrcOk S z d m news):news.length=m * z:=by
 cases d with
 | sl o es=>obtain ⟨h1,rfl,rfl⟩:=h;exact dflat_length h1
 | win k off n c =>
  obtain ⟨rfl,⟨h1,rfl⟩ | ⟨t,cs,_,h2,rfl⟩⟩:=h
  ·rw [h1];simp
  ·rw [List.length_take,List.length_drop];omega
 | _=>exact h.elim
theorem srcOk_at (hM:Mem P base S η w) {z:Nat} {d:D} {m:Nat} {news:List D} {v:Value} (hs:SrcOk S z d m news) (hr:Rep P w η (Fix P S η) d v) :
  ∃ us,SrcAt w z v m us∧RepL P w η (Fix P S η) news us:=by
 cases d with
 | sl o es =>
  obtain ⟨h1,rfl,rfl⟩:=hs
  simp only [Rep] at hr
  obtain ⟨A,c,rfl,h2,h3,h4,h5⟩:=hr
  rcases Nat.eq_zero_or_pos es.length with h0 | h0
  ·have:es=[]:=List.eq_nil_of_length_eq_zero h0
   subst this
   refine ⟨[],⟨⟨A,c,rfl,by simp,?_⟩,by simp,fun u hu=>by cases hu⟩,by simp [flat,RepL]⟩
   cases A with
   | none=>exact .inl ⟨rfl,rfl⟩
   | some a=>exact .inr ⟨a,rfl,fun j u hu=>by simp at hu⟩
  ·obtain ⟨b,o,z',rfl,hz',hr⟩:=h5 h0
   obtain ⟨k1,k2⟩:=RepE.flat hr
   obtain ⟨vs,g1,g2,g3,g4⟩:=k2.range
   exact ⟨vs,⟨⟨_,c,rfl,h3,.inr ⟨_,rfl,fun j u hu=>by rw [Addr.add_mid];exact g2 j u hu⟩⟩,by rw [g1,dflat_length h1],g4⟩,g3⟩
 | win k off n c =>
  obtain ⟨rfl,h⟩:=hs
  obtain ⟨A,rfl,h2,h3,h4⟩:=hr.win_slice
  rcases h with ⟨rfl,rfl⟩ | ⟨t,cs,h5,h6,rfl⟩
  ·refine ⟨[],⟨⟨A,c,rfl,by simp,?_⟩,by simp,fun u hu=>by cases hu⟩,by simp [RepL]⟩
   cases A with
   | none=>exact .inl ⟨rfl,rfl⟩
   | some a=>exact .inr ⟨a,rfl,fun j u hu=>by simp at hu⟩
  ·obtain ⟨b,hb⟩:=hM.live k t cs h5
   rcases h4 with ⟨b',h4,rfl⟩ | ⟨h4,_⟩
   rotate_left
   ·rw [hb] at h4;cases h4
   have:b'=b:=by rw [hb] at h4;injection h4 with h4;injection h4 with h4;exact h4.symm
   subst this
   obtain ⟨vs,g1,g2,g3⟩:=hM.box k t cs b' h5 hb
   have hl:=g2.length
   refine ⟨(vs.drop off).take (m * z),⟨⟨_,c,rfl,h3,.inr ⟨_,rfl,fun j u hu=>?_⟩⟩,by rw [List.length_take,List.length_drop];omega,fun u hu=>g3 u (List.mem_of_mem_drop (List.mem_of_mem_take hu))⟩,(g2.drop off).take _⟩
   rw [Addr.add_mid]
   have:w.cell? ⟨b',off+j,none⟩=vs.toArray[off+j]? := by simp [World.cell?,g1]
   rw [this]
   rw [List.getElem?_take] at hu
   split at hu
   ·rw [List.getElem?_drop] at hu
    simpa using hu
   ·cases hu
 | _=>exact hs.elim
theorem SrcAt.src {z:Nat} {v:Value} {m:Nat} {us:List Value} {tx:TypeId} (h:SrcAt w z v m us) (ht:(elT P tx).isSome=true):Src P z tx v m us w:=by
 obtain ⟨e',he'⟩:=Option.isSome_iff_exists.1 ht
 have hk:=elT_spec he'
 obtain ⟨⟨A,c,rfl,_,⟨rfl,rfl⟩ | ⟨a,rfl,ha⟩⟩,h2,h3⟩:=h
 ·have:us=[]:=List.eq_nil_of_length_eq_zero (by rw [h2];simp)
  subst this
  exact Src.ofNil w hk c
 ·exact Src.ofSlice w hk a m c us h2 ha h3
theorem SrcAt.first {z:Nat} {v:Value} {m:Nat} {us:List Value} (h:SrcAt w z v m us) {q:Nat} (hq:q≤m):(Builtin.firstCells z q v).run P w=.ok (us.take (q * z)).toArray w:=by
 obtain ⟨⟨A,c,rfl,_,⟨rfl,rfl⟩ | ⟨a,rfl,ha⟩⟩,h2,h3⟩:=h
 ·have:us=[]:=List.eq_nil_of_length_eq_zero (by rw [h2];simp)
  subst this
  simp [run_firstCells_none]
 ·refine run_firstCells_some w z q a m c _ (take_mul h2 hq) fun j u hu=>ha j u ?_
  rw [List.getElem?_take] at hu
  split at hu
  ·exact hu
  ·cases hu
theorem SrcAt.lenOf {z:Nat} {v:Value} {m:Nat} {us:List Value} (h:SrcAt w z v m us) (w':World):(Builtin.lenOf v).run P w'=.ok m w':=by
 obtain ⟨⟨A,c,rfl,_⟩,_⟩:=h
 rfl
theorem win_live (hM:Mem P base S η w) {k off n c:Nat} {t:TypeId} {cs:List D} {v:Value} (hk:S.ob k=some (.box t cs)) (hr:Rep P w η (Fix P S η) (.win k off n c) v) :
  ∃ b vs,v=.slice (some ⟨b,off,none⟩) n c∧η k=some (some b)∧w.heap[b]? = some (.cells vs.toArray t (0,0))∧RepL P w η (Fix P S η) cs vs∧(∀ x∈vs,x.oneCell'=true)∧n≤c∧n≤140737488355328:=by
 obtain ⟨A,rfl,h2,h3,h4⟩:=hr.win_slice
 obtain ⟨b,hb⟩:=hM.live k t cs hk
 rcases h4 with ⟨b',h4,rfl⟩ | ⟨h4,_⟩
 ·have:b'=b:=by rw [hb] at h4;injection h4 with h4;injection h4 with h4;exact h4.symm
  subst this
  obtain ⟨vs,g1,g2,g3⟩:=hM.box k t cs b' hk hb
  exact ⟨b',vs,rfl,h4,g1,g2,g3,h2,h3⟩
 ·rw [hb] at h4;cases h4
theorem splice_len {cs ds:List D} {off:Nat} (h:off+ds.length≤cs.length):(splice cs off ds).length=cs.length:=by
 simp only [splice,List.length_append,List.length_take,List.length_drop]
 omega
theorem one_splice {vs us:List Value} {off:Nat} (h:∀ x∈vs,x.oneCell'=true) (k:∀ x∈us,x.oneCell'=true):∀ x∈vs.take off++us++vs.drop (off+us.length),x.oneCell'=true:=fun u hu=>by
 rcases List.mem_append.1 hu with hu | hu
 ·rcases List.mem_append.1 hu with hu | hu
  ·exact h u (List.mem_of_mem_take hu)
  ·exact k u hu
 ·exact h u (List.mem_of_mem_drop hu)
theorem dcopy_win {t tx ty e:TypeId} (he:elT P t=some e) (hi:(P.info? e).isSome=true) {k off n c m:Nat} {bt:TypeId} {cs news:List D} {y:D} {K:D→St→Prop} (hk:S.ob k=some (.box bt cs)) (hs:SrcOk S (szOf P e) y m news) (hfit:off+Nat.min m n * szOf P e≤cs.length)
  {cs':List D} (hcs:splice cs off (news.take (Nat.min m n * szOf P e))=cs') (h:K (.v (.int .i64 (Nat.min m n:Nat))) (S.set k (.box bt cs'))):dcopy P #[t,tx] ty (.win k off n c) y S K:=by
 subst hcs
 intro base η w vs hM hr
 simp only [RepL] at hr
 obtain ⟨x1,_,rfl,r1,x2,_,rfl,r2,rfl⟩:=hr
 obtain ⟨us,s1,s2⟩:=srcOk_at hM hs r2
 obtain ⟨b,bs,rfl,hb,g1,g2,g3,g4,g5⟩:=win_live hM hk r1
 obtain ⟨i,hi⟩:=Option.isSome_iff_exists.1 hi
 have hsz:szOf P e=i.size:=by simp [szOf,hi]
 have hu:=elT_spec he
 have hl:=g2.length
 have hul:=take_mul s1.len (Nat.min_le_left m n)
 have hf:=s1.first (P:=P) (Nat.min_le_left m n)
 have h1:∀ u∈us.take (Nat.min m n * szOf P e),u.oneCell'=true:=fun u hu=>s1.one u (List.mem_of_mem_take hu)
 have hst:=run_storeCells_at P b off bt (us.take (Nat.min m n * szOf P e)) 0 bs.toArray w g1 (by rw [Nat.add_zero,hul,List.size_toArray,hl];exact hfit) h1
 simp only [Nat.add_zero] at hst
 have hnl:=take_mul hs.length (Nat.min_le_left m n)
 have G:=goes_set hM hk hb (splice_len (by rw [hnl];exact hfit)) (splice_rep g2 (s2.take (Nat.min m n * szOf P e))) (one_splice g3 h1)
 refine ⟨_,_,η,.int .i64 (Nat.min m n:Nat),_,?_,h,by simp only [Rep],G⟩
 rw [hsz] at hf hst ⊢
 simp [Builtin.copy_,run_underlying hu,s1.lenOf,sizeOf,typeInfo,hi,hf,hst,goInt]
theorem run_append_room_at (w:World) (t tx ty e:TypeId) (i:TypeInfo) (ht:P.underlying t=some (.slice e)) (hi:P.info? e=some i) (b off sLen sCap:Nat) (bt:TypeId) (x:Value) (n:Nat) (news:List Value) (hs:Src P i.size tx x n news w)
  (cur:Array Value) (hg:w.heap[b]? = some (.cells cur bt (0,0))) (hroom:sLen+n≤sCap) (hfit:off+sLen * i.size+news.length≤cur.size) :
  (Builtin.append_ #[t,tx] ty #[.slice (some ⟨b,off,none⟩) sLen sCap,x]).run P w=.ok (.slice (some ⟨b,off,none⟩) (sLen+n) sCap) (w.setRow b (cur.toList.take (off+sLen * i.size)++news++cur.toList.drop (off+sLen * i.size+news.length)).toArray):=by
 have hst:=run_storeCells_at P b (off+sLen * i.size) bt news 0 cur w hg (by simpa using hfit) hs.one
 simp only [Nat.add_zero] at hst
 rcases hs.kind with ⟨e',hk⟩ | hk <;> simp [Builtin.append_,run_underlying ht,run_underlying hk,sizeOf,typeInfo,hi,hs.len,hroom,hs.cells,Addr.add_lit,hst]
def dappW (P:Program) (t tx ty:TypeId) (x y:D) (S:St) (K:D→St→Prop):Prop:=DRun P (fun vs=>Builtin.append_ #[t,tx] ty vs.toArray) [x,y] S K
theorem dapp_atw {t tx ty:TypeId} {k off n c:Nat} {y:D} {K:D→St→Prop}:dapp P S t tx ty (.win k off n c) y K=dappW P t tx ty (.win k off n c) y S K:=rfl
attribute [go_sem] dapp_atw
theorem dapp_nil {t tx ty e:TypeId} {own o2:Own} {es es2:List D} {K:D→St→Prop} (he:elT P t=some e) (h:dappW P t tx ty (.sl own es) (.sl o2 es2) S K):dapp P S t tx ty (.sl own es) (.sl o2 es2) K:=dapp_step he h
theorem dappend_in {t tx ty e:TypeId} (he:elT P t=some e) (hx:(elT P tx).isSome=true) (hi:(P.info? e).isSome=true) {k off n c m:Nat} {bt:TypeId} {cs news:List D} {y:D} {K:D→St→Prop} (hk:S.ob k=some (.box bt cs)) (hs:SrcOk S (szOf P e) y m news)
  (hroom:n+m≤c) (hb:n+m≤140737488355328) (hfit:off+(n+m) * szOf P e≤cs.length) {cs':List D} (hcs:splice cs (off+n * szOf P e) news=cs') (h:K (.win k off (n+m) c) (S.set k (.box bt cs'))):dappW P t tx ty (.win k off n c) y S K:=by
 subst hcs
 intro base η w vs hM hr
 simp only [RepL] at hr
 obtain ⟨x1,_,rfl,r1,x2,_,rfl,r2,rfl⟩:=hr
 obtain ⟨us,s1,s2⟩:=srcOk_at hM hs r2
 obtain ⟨b,bs,rfl,hbb,g1,g2,g3,g4,g5⟩:=win_live hM hk r1
 obtain ⟨i,hi⟩:=Option.isSome_iff_exists.1 hi
 have hsz:szOf P e=i.size:=by simp [szOf,hi]
 have hu:=elT_spec he
 have hl:=g2.length
 have hf:off+n * szOf P e+us.length≤bs.toArray.size:=by
  rw [s1.len,List.size_toArray,hl,Nat.add_assoc,← Nat.add_mul];exact hfit
 have hrun:=run_append_room_at (P:=P) w t tx ty e i hu hi b off n c bt x2 m us (hsz ▸ s1.src hx) bs.toArray g1 hroom (hsz ▸ hf)
 have G:=goes_set hM hk hbb (splice_len (by rw [hs.length,Nat.add_assoc,← Nat.add_mul];exact hfit)) (splice_rep g2 s2) (one_splice (off:=off+n * szOf P e) g3 s1.one)
 refine ⟨_,_,η,_,_,hrun,h,by simp only [Rep];exact .inl ⟨b,hbb,rfl,hroom,hb⟩,?_⟩
 rw [← hsz]
 exact G
theorem dappend_new {t tx ty e:TypeId} (he:elT P t=some e) (hx:(elT P tx).isSome=true) (hz:zeroT P e=true) (hz2:zeroOk P e=true) {n c m:Nat} {x:D} {olds news:List D} {y:D} {K:D→St→Prop} (ho:SrcOk S (szOf P e) x n olds) (hxc:∀ k' off' n' c',x=.win k' off' n' c'→c'=c) (hxs:∀ o es,x=.sl o es→o=.full∧c=es.length) (hs:SrcOk S (szOf P e) y m news)
  (hgrow:c<n+m) (hb:n+m≤140737488355328) (hby:(n+m) * bytesOf P e≤140737488355328)
  (h:∀ (c':Nat) (zs:List D),n+m≤c'→(olds++news++zs).length=c' * szOf P e→K (.win S.next 0 (n+m) c') (S.add (.box e (olds++news++zs)))):dappW P t tx ty x y S K:=by
 intro base η w vs hM hr
 simp only [RepL] at hr
 obtain ⟨x1,_,rfl,r1,x2,_,rfl,r2,rfl⟩:=hr
 obtain ⟨us,s1,s2⟩:=srcOk_at hM hs r2
 obtain ⟨os,o1,o2⟩:=srcOk_at hM ho r1
 obtain ⟨i,z,hi,hzr,hzs,hpos,hsz,hbz⟩:=zeroT_spec hz
 obtain ⟨z2,i2,hi2,hz2r,_,hz1,_⟩:=zeroOk_spec hz2
 rw [hi] at hi2
 injection hi2 with hi2
 subst hi2
 rw [hzr] at hz2r
 injection hz2r with hz2r
 subst hz2r
 have hu:=elT_spec he
 have hel:(elT P t).isSome=true:=by rw [he];rfl
 obtain ⟨A,cc,e1,_,_⟩:=o1.sl
 have hcc:cc=c:=by
  cases x with
  | win k' off' n' c' =>
   obtain ⟨A',e2,_⟩:=r1.win_slice
   rw [e1] at e2
   injection e2 with _ _ e2
   rw [e2]
   exact hxc _ _ _ _ rfl
  | sl o es =>
   obtain ⟨rfl,rfl⟩:=hxs _ _ rfl
   simp only [Rep,OwnAt] at r1
   obtain ⟨A',c',e2,_,_,rfl,_⟩:=r1
   rw [e1] at e2
   injection e2 with _ _ e2
  | _=>exact ho.elim
 subst hcc
 subst e1
 have hso:=o1.src hel
 have hsn:=s1.src hx
 rw [hsz] at hso hsn
 have hcold:=hso.cellsD
 have hrun:=run_append_grow_src (P:=P) w t tx ty e i z hu hi hzr A n cc os hcold x2 m us hsn hgrow (by omega) (growslice_fits hgrow (by rw [← hbz];exact hby))
 have G1:=goes_drew hM
 have hge:=grownCap_ge w (n+m) cc e
 have G3:=G1.trans (goes_name G1.mem (.box e (olds++news++(Builtin.zeroCells z.cells (grownCap w (n+m) cc e - (n+m))).toList.map ofV)) ((os++us).toArray++Builtin.zeroCells z.cells (grownCap w (n+m) cc e - (n+m))) e
  (.inl ⟨_,os++us++(Builtin.zeroCells z.cells (grownCap w (n+m) cc e - (n+m))).toList,rfl,by apply Array.ext';simp,RepL.append (RepL.append (G1.repL o2) (G1.repL s2)) (zeroD_rep _),fun u hu'=>(List.mem_append.1 hu').elim (fun hh=>(List.mem_append.1 hh).elim (o1.one u) (s1.one u)) fun hh=>hz1 u (zeroCells_mem hh)⟩))
 refine ⟨_,_,_,_,_,hrun,h _ _ hge ?_,?_,G3⟩
 ·have e1:=size_zeroCells z.cells (grownCap w (n+m) cc e - (n+m))
  rw [← Array.length_toList] at e1
  rw [List.length_append,List.length_append,List.length_map,ho.length,hs.length,e1,hzs,hsz,← Nat.add_mul,← Nat.add_mul]
  congr 1
  omega
 ·simp only [Rep]
  exact .inl ⟨w.heap.size,by simp only [Names.add,↓reduceIte];rfl,rfl,hge,hb⟩
/-! ### Owned slices -/
theorem DRun.thaw {run:List Value→Sem Value} {args:List D} {K:D→St→Prop} (h:DRun P run args S fun d S'=>∃ S1 d1,Thaw P S' d S1 d1∧K d1 S1):DRun P run args S K:=fun base η w vs hM hr=>by
 obtain ⟨d,S',η',v,w',h1,⟨S1,d1,h2,h3⟩,h4,h5⟩:=h base η w vs hM hr
 obtain ⟨η2,k1,k2⟩:=h2 base η' w' v h5.mem h4
 exact ⟨d1,S1,η2,v,w',h1,h3,k2,h5.trans k1⟩
theorem DCalls.thaw {g:FuncId} {args:List D} {K:D→St→Prop} (h:DCalls P g args S fun d S'=>∃ S1 d1,Thaw P S' d S1 d1∧K d1 S1):DCalls P g args S K:=fun base η w vs hM hr=>by
 rcases h base η w vs hM hr with ⟨h1,h2⟩ | ⟨d,S',η',v,w',h1,⟨S1,d1,h2,h3⟩,h4,h5⟩
 ·refine .inl ⟨h1,h2.mono fun e w' ⟨d,S',η',v,⟨S1,d1,h2,h3⟩,he,h4,h5⟩=>?_⟩
  obtain ⟨η2,k1,k2⟩:=h2 base η' w' v h5.mem h4
  exact ⟨d1,S1,η2,v,h3,he,k2,h5.trans k1⟩
 ·obtain ⟨η2,k1,k2⟩:=h2 base η' w' v h5.mem h4
  exact .inr ⟨d1,S1,η2,v,w',h1,h3,k2,h5.trans k1⟩
theorem goes_rename (h:Mem P base S η w) {k:Nat} {o:Ob} {b:Option Nat} (hk:S.ob k=some o) (hb:η k=some b):Goes P base S η w ((S.drop k).add o) (η.add S.next b) w:=by
 have hkn:k<S.next:=h.lt (by rw [hb];rfl)
 have ob_new:((S.drop k).add o).ob S.next=some o:=by simp [St.add,St.drop]
 have ob_old:∀ j,j ≠ S.next→((S.drop k).add o).ob j=if j=k then none else S.ob j:=fun j hj=>by simp [St.add,St.drop,hj]
 have ob_some:∀ j o',((S.drop k).add o).ob j=some o'→(j=S.next∧o'=o)∨(j ≠ S.next∧j ≠ k∧S.ob j=some o'):=fun j o' hj=>by
  by_cases e:j=S.next
  ·subst e;rw [ob_new] at hj;injection hj with hj;exact .inl ⟨rfl,hj.symm⟩
  ·rw [ob_old j e] at hj
   by_cases e2:j=k
   ·rw [if_pos e2] at hj;cases hj
   ·rw [if_neg e2] at hj;exact .inr ⟨e,e2,hj⟩
 have eta_new:(η.add S.next b) S.next=some b:=by simp [Names.add]
 have eta_old:∀ j,j ≠ S.next→(η.add S.next b) j=η j:=fun j hj=>by simp [Names.add,hj]
 have K:Keep (fun _=>True) w η (Fix P S η) w (η.add S.next b) (Fix P ((S.drop k).add o) (η.add S.next b)):=by
  refine ⟨Nat.le_refl _,fun q i _ hx=>⟨fun j o' hj ho=>?_,rfl⟩,fun j c _ hj=>?_,fun q cur e hq=>⟨cur,hq,rfl⟩⟩
  ·rcases ob_some j o' ho with ⟨rfl,rfl⟩ | ⟨e1,e2,e3⟩
   ·rw [eta_new] at hj
    injection hj with hj
    exact hx k o' (by rw [hb,hj]) hk
   ·rw [eta_old j e1] at hj
    exact hx j o' hj e3
  ·have:j ≠ S.next:=fun e=>by subst e;rw [h.dead _ (Nat.le_refl _)] at hj;cases hj
   rw [eta_old j this];exact hj
 have src:∀ j b',(η.add S.next b) j=some (some b')→(((S.drop k).add o).ob j).isSome=true→∃ j',η j'=some (some b')∧(S.ob j').isSome=true∧((j=S.next∧j'=k)∨(j ≠ S.next∧j ≠ k∧j'=j)):=fun j b' hj ho=>by
  obtain ⟨o',ho⟩:=Option.isSome_iff_exists.1 ho
  rcases ob_some j o' ho with ⟨rfl,rfl⟩ | ⟨e1,e2,e3⟩
  ·rw [eta_new] at hj
   injection hj with hj
   exact ⟨k,by rw [hb,hj],by rw [hk];rfl,.inl ⟨rfl,rfl⟩⟩
  ·rw [eta_old j e1] at hj
   exact ⟨j,hj,by rw [e3];rfl,.inr ⟨e1,e2,rfl⟩⟩
 refine ⟨⟨h.base_,fun j hj=>?_,fun j hj=>?_,fun j t cs hj=>?_,fun j j' b' h1 h2 h3 h4=>?_,fun j b' hj=>?_,fun j t cs b' h1 h2=>?_,fun j e n b' h1 h2=>?_,h.glob,fun j b' l hj=>?_⟩,K,Below.refl _ _,fun _=>Nat.le_refl _,Loops.refl _⟩
 ·have hj':S.next+1≤j:=hj
  rw [eta_old j (by omega)];exact h.dead j (by omega)
 ·have hj':S.next+1≤j:=hj
  rw [ob_old j (by omega),if_neg (by omega)];exact h.fresh j (by omega)
 ·rcases ob_some j _ hj with ⟨rfl,rfl⟩ | ⟨e1,e2,e3⟩
  ·obtain ⟨b',hb'⟩:=h.live k t cs hk
   rw [hb] at hb'
   injection hb' with hb'
   exact ⟨b',by rw [eta_new,hb']⟩
  ·obtain ⟨b',hb'⟩:=h.live j t cs e3
   exact ⟨b',by rw [eta_old j e1];exact hb'⟩
 ·obtain ⟨i,a1,a2,a3⟩:=src j b' h1 h3
  obtain ⟨i',c1,c2,c3⟩:=src j' b' h2 h4
  have:=h.inj i i' b' a1 c1 a2 c2
  rcases a3 with ⟨rfl,rfl⟩ | ⟨a3,a4,rfl⟩ <;> rcases c3 with ⟨rfl,rfl⟩ | ⟨c3,c4,rfl⟩
  ·rfl
  ·exact absurd this.symm c4
  ·exact absurd this a4
  ·exact this
 ·by_cases e:j=S.next
  ·subst e
   rw [eta_new] at hj
   injection hj with hj
   exact h.in_ k b' (by rw [hb,hj])
  ·rw [eta_old j e] at hj;exact h.in_ j b' hj
 ·rcases ob_some j _ h1 with ⟨rfl,rfl⟩ | ⟨e1,e2,e3⟩
  ·rw [eta_new] at h2
   injection h2 with h2
   obtain ⟨vs,k1,k2,k3⟩:=h.box k t cs b' hk (by rw [hb,h2])
   exact ⟨vs,k1,RepL.keep K (allL_true _) k2,k3⟩
  ·rw [eta_old j e1] at h2
   obtain ⟨vs,k1,k2,k3⟩:=h.box j t cs b' e3 h2
   exact ⟨vs,k1,RepL.keep K (allL_true _) k2,k3⟩
 ·rcases ob_some j _ h1 with ⟨rfl,rfl⟩ | ⟨e1,e2,e3⟩
  ·rw [eta_new] at h2
   injection h2 with h2
   exact h.row k e n b' hk (by rw [hb,h2])
  ·rw [eta_old j e1] at h2
   exact h.row j e n b' e3 h2
 ·rcases ob_some j _ hj with ⟨rfl,rfl⟩ | ⟨e1,e2,e3⟩
  ·obtain ⟨k1,k2⟩:=h.mp k b' l hk
   rw [hb] at k1
   exact ⟨by rw [eta_new];exact k1,k2⟩
  ·obtain ⟨k1,k2⟩:=h.mp j b' l e3
   exact ⟨by rw [eta_old j e1];exact k1,k2⟩
theorem thaw_rename {k off n c:Nat} {o:Ob} (hk:S.ob k=some o):Thaw P S (.win k off n c) ((S.drop k).add o) (.win S.next off n c):=fun base η w v hM hr=>by
 simp only [Rep] at hr
 rcases hr with ⟨b,h1,h2⟩ | ⟨h1,h2⟩
 ·exact ⟨_,goes_rename hM hk h1,by simp only [Rep];exact .inl ⟨b,by simp [Names.add],h2⟩⟩
 ·exact ⟨_,goes_rename hM hk h1,by simp only [Rep];exact .inr ⟨by simp [Names.add],h2⟩⟩
theorem thaw_drop (k:Nat) (d:D):Thaw P S d (S.drop k) d:=fun base η w v hM hr=>⟨η,goes_drop hM k,(goes_drop hM k).rep hr⟩
theorem thaw_nil (e:TypeId):Thaw P S (.sl .full []) (S.add (.row e 0)) (.win S.next 0 0 0):=fun base η w v hM hr=>by
 simp only [Rep,OwnAt] at hr
 obtain ⟨A,c,rfl,_,_,rfl,_⟩:=hr
 refine ⟨_,goes_bare hM e 0,?_⟩
 unfold Rep
 exact .inr ⟨by simp [Names.add],rfl,rfl,A,rfl⟩
theorem St.set_drop (S:St) (k:Nat) (o:Ob):(S.set k o).drop k=S.drop k:=by
 unfold St.set St.drop
 congr 1
 funext j
 by_cases h:j=k <;> simp [h]
theorem St.add_set (S:St) (o o':Ob):(S.add o).set S.next o'=S.add o':=by
 unfold St.set St.add
 congr 1
 funext j
 by_cases h:j=S.next <;> simp [h]
theorem St.set_set (S:St) (k:Nat) (o o':Ob):(S.set k o).set k o'=S.set k o':=by
 unfold St.set
 congr 1
 funext j
 by_cases h:j=k <;> simp [h]
theorem St.add_drop (S:St) {k:Nat} (o:Ob) (h:k<S.next):(S.add o).drop k=(S.drop k).add o:=by
 unfold St.add St.drop
 congr 1
 funext j
 by_cases h1:j=k
 ·subst h1
  simp
  omega
 ·simp [h1]
theorem flat_append (l m:List D):flat (l++m)=flat l++flat m:=by simp [flat]
theorem ownOb_len {es zs:List D} {c z:Nat} (hw:∀ d∈es,d.width=z) (hz:0<z) (h:(flat es++zs).length=c * z):es.length≤c:=by
 rw [List.length_append,dflat_length hw] at h
 rcases Nat.lt_or_ge c es.length with h' | h'
 ·have:(c+1) * z≤es.length * z:=Nat.mul_le_mul_right _ h'
  rw [Nat.add_mul] at this
  omega
 ·exact h'
theorem flat_take {es:List D} {z:Nat} (hw:∀ d∈es,d.width=z) (q:Nat):(flat es).take (q * z)=flat (es.take q):=by
 induction es generalizing q with
 | nil=>simp [flat]
 | cons d es ih =>
  cases q with
  | zero=>simp [flat]
  | succ q =>
   have h1:d.cells.length=z:=hw d (by simp)
   have h2:=ih (fun x hx=>hw x (by simp [hx])) q
   have e1:flat (d::es)=d.cells++flat es:=by simp [flat]
   have e2:flat (d::es.take q)=d.cells++flat (es.take q):=by simp [flat]
   rw [e1,List.take_succ_cons,e2,← h2,List.take_append,h1,List.take_of_length_le (by rw [h1,Nat.add_mul];omega)]
   congr 2
   rw [Nat.add_mul];omega
theorem flat_drop {es:List D} {z:Nat} (hw:∀ d∈es,d.width=z) (q:Nat):(flat es).drop (q * z)=flat (es.drop q):=by
 induction es generalizing q with
 | nil=>simp [flat]
 | cons d es ih =>
  cases q with
  | zero=>simp
  | succ q =>
   have h1:d.cells.length=z:=hw d (by simp)
   have h2:=ih (fun x hx=>hw x (by simp [hx])) q
   have e1:flat (d::es)=d.cells++flat es:=by simp [flat]
   rw [e1,List.drop_succ_cons,← h2,List.drop_append,h1,List.drop_of_length_le (by rw [h1,Nat.add_mul];omega),List.nil_append]
   congr 1
   rw [Nat.add_mul];omega
theorem srcOk_own {k c:Nat} {e:TypeId} {es zs:List D} {z:Nat} (hk:S.ob k=some (ownOb e es zs c)) (hc:es.length≤c) (hw:∀ d∈es,d.width=z) {l n:Nat} (hq:l+n≤es.length) {c':Nat}:SrcOk S z (.win k (l * z) n c') n (flat ((es.drop l).take n)):=by
 refine ⟨rfl,?_⟩
 rcases Nat.eq_zero_or_pos c with rfl | h
 ·have:es=[]:=List.eq_nil_of_length_eq_zero (by omega)
  subst this
  have:n=0:=by simp at hq;omega
  subst this
  exact .inl ⟨rfl,by simp [flat]⟩
 ·rw [ownOb_box h] at hk
  have hf:=dflat_length hw
  have hle:(l+n) * z≤es.length * z:=Nat.mul_le_mul_right _ hq
  rw [Nat.add_mul] at hle
  refine .inr ⟨e,_,hk,?_,?_⟩
  ·rw [List.length_append,hf];omega
  ·rw [List.drop_append_of_le_length (by rw [hf];omega),List.take_append_of_le_length (by rw [List.length_drop,hf];omega),flat_drop hw,flat_take fun d hd=>hw d (List.mem_of_mem_drop hd)]
theorem srcOk_own0 {k c:Nat} {e:TypeId} {es zs:List D} {z:Nat} (hk:S.ob k=some (ownOb e es zs c)) (hc:es.length≤c) (hw:∀ d∈es,d.width=z) {q:Nat} (hq:q≤es.length) {c':Nat}:SrcOk S z (.win k 0 q c') q (flat (es.take q)):=by
 have:=srcOk_own hk hc hw (l:=0) (n:=q) (by omega) (c':=c')
 rwa [Nat.zero_mul,List.drop_zero] at this
theorem srcOk_ownA {k c:Nat} {e:TypeId} {es zs:List D} {z:Nat} (hk:S.ob k=some (ownOb e es zs c)) (hc:es.length≤c) (hw:∀ d∈es,d.width=z) {c':Nat}:SrcOk S z (.win k 0 es.length c') es.length (flat es):=by
 have:=srcOk_own0 hk hc hw (Nat.le_refl _) (c':=c')
 rwa [List.take_of_length_le (Nat.le_refl _)] at this
theorem zeroT_pos {e:TypeId} (h:zeroT P e=true):0<szOf P e∧(P.info? e).isSome=true:=by
 obtain ⟨i,z,hi,_,_,hp,hs,_⟩:=zeroT_spec h
 exact ⟨by omega,by rw [hi];rfl⟩
theorem dappend_own {t tx ty e:TypeId} (he:elT P t=some e) (hx:(elT P tx).isSome=true) (hz:zeroT P e=true) (hz2:zeroOk P e=true) {k c m:Nat} {es es2 zs:List D} {y:D} {K:D→St→Prop} (hk:S.ob k=some (ownOb e es zs c)) (hl:(flat es++zs).length=c * szOf P e) (hw1:∀ d∈es,d.width=szOf P e) (hs:SrcOk S (szOf P e) y m (flat es2)) (hm:m=es2.length)
  (hb:es.length+es2.length≤140737488355328) (hby:(es.length+es2.length) * bytesOf P e≤140737488355328) (hkn:k<S.next)
  (h:∀ (c':Nat) (zs':List D),es.length+es2.length≤c'→(flat (es++es2)++zs').length=c' * szOf P e→K (.win S.next 0 (es.length+es2.length) c') ((S.drop k).add (ownOb e (es++es2) zs' c'))):dappW P t tx ty (.win k 0 es.length c) y S K:=by
 subst hm
 obtain ⟨hzp,hi⟩:=zeroT_pos hz
 have hc:=ownOb_len hw1 hzp hl
 refine DRun.thaw ?_
 by_cases hroom:es.length+es2.length≤c
 ·rcases Nat.eq_zero_or_pos c with rfl | hpos
  ·have e1:es=[]:=List.eq_nil_of_length_eq_zero (by omega)
   have e2:es2=[]:=List.eq_nil_of_length_eq_zero (by omega)
   subst e1 e2
   rw [ownOb_nil] at hk
   intro base η w vs hM hr
   simp only [RepL] at hr
   obtain ⟨x1,_,rfl,r1,x2,_,rfl,r2,rfl⟩:=hr
   obtain ⟨us,s1,s2⟩:=srcOk_at hM hs r2
   have hus:us=[]:=List.eq_nil_of_length_eq_zero (by rw [s1.len];simp)
   subst hus
   obtain ⟨i,hi⟩:=Option.isSome_iff_exists.1 hi
   have hsz:szOf P e=i.size:=by simp [szOf,hi]
   obtain ⟨A,rfl,_⟩:=r1.win_slice
   have hsrc:=s1.src hx
   rw [hsz] at hsrc
   refine ⟨_,S,η,_,w,run_append_nothing w t tx ty e i (elT_spec he) hi A _ _ (Nat.le_refl _) x2 hsrc,?_,r1,Goes.refl hM⟩
   exact ⟨_,_,thaw_rename hk,h 0 [] (Nat.le_refl _) (by simp [flat])⟩
  ·have hk':=hk
   rw [ownOb_box hpos] at hk'
   have hfl:=dflat_length hw1
   refine dappend_in he hx hi hk' hs hroom hb (by rw [Nat.zero_add,hl];exact Nat.mul_le_mul_right _ hroom) rfl ?_
   refine ⟨_,_,thaw_rename (o:=.box e (splice (flat es++zs) (0+es.length * szOf P e) (flat es2))) (by simp [St.set]),?_⟩
   have hsp:splice (flat es++zs) (0+es.length * szOf P e) (flat es2)=flat (es++es2)++zs.drop (es2.length * szOf P e):=by
    rw [Nat.zero_add,← hfl,flat_append]
    unfold splice
    rw [List.take_append_of_le_length (Nat.le_refl _),List.take_of_length_le (Nat.le_refl _),List.drop_append,hs.length]
    simp
   have h2:=h c (zs.drop (es2.length * szOf P e)) hroom (by
    rw [← hsp,splice_len,hl]
    rw [Nat.zero_add,hs.length,hl,← Nat.add_mul]
    exact Nat.mul_le_mul_right _ hroom)
   rw [ownOb_box hpos,← hsp] at h2
   rw [St.set_drop]
   exact h2
 ·refine dappend_new he hx hz hz2 (srcOk_ownA hk hc hw1) (fun _ _ _ _ e=>by injection e with _ _ _ e;exact e.symm) (fun _ _ e=>by cases e) hs (by omega) hb hby fun c' zs hc' hl'=>?_
  refine ⟨_,_,thaw_drop k _,?_⟩
  rw [St.add_drop S _ hkn]
  have:=h c' zs hc' (by rw [flat_append];exact hl')
  rw [ownOb_box (by omega),flat_append] at this
  exact this
theorem dappend_fresh {t tx ty e:TypeId} (he:elT P t=some e) (hx:(elT P tx).isSome=true) (hz:zeroT P e=true) (hz2:zeroOk P e=true) {m:Nat} {es2:List D} {y:D} {K:D→St→Prop} (hs:SrcOk S (szOf P e) y m (flat es2)) (hm:m=es2.length)
  (hb:es2.length≤140737488355328) (hby:es2.length * bytesOf P e≤140737488355328)
  (h:∀ (c':Nat) (zs':List D),es2.length≤c'→(flat es2++zs').length=c' * szOf P e→K (.win S.next 0 es2.length c') (S.add (ownOb e es2 zs' c'))):dappW P t tx ty (.sl .full []) y S K:=by
 subst hm
 obtain ⟨hzp,hi⟩:=zeroT_pos hz
 rcases Nat.eq_zero_or_pos es2.length with h0 | hpos
 ·have e2:es2=[]:=List.eq_nil_of_length_eq_zero h0
  subst e2
  refine DRun.thaw ?_
  intro base η w vs hM hr
  simp only [RepL] at hr
  obtain ⟨x1,_,rfl,r1,x2,_,rfl,r2,rfl⟩:=hr
  obtain ⟨us,s1,s2⟩:=srcOk_at hM hs r2
  have hus:us=[]:=List.eq_nil_of_length_eq_zero (by rw [s1.len];simp)
  subst hus
  obtain ⟨i,hi⟩:=Option.isSome_iff_exists.1 hi
  have hsz:szOf P e=i.size:=by simp [szOf,hi]
  have hsrc:=s1.src hx
  rw [hsz] at hsrc
  have r1':=r1
  simp only [Rep,OwnAt] at r1'
  obtain ⟨A,c,rfl,_,_,rfl,_⟩:=r1'
  refine ⟨_,S,η,_,w,run_append_nothing w t tx ty e i (elT_spec he) hi A _ _ (Nat.le_refl _) x2 hsrc,?_,r1,Goes.refl hM⟩
  exact ⟨_,_,thaw_nil e,h 0 [] (Nat.le_refl _) (by simp [flat])⟩
 ·refine dappend_new he hx hz hz2 (n:=0) (c:=0) (olds:=[]) ⟨(fun _ hx=>by cases hx),rfl,rfl⟩ (fun _ _ _ _ e=>by cases e) (fun _ _ e=>by injection e with e1 e2;subst e1 e2;exact ⟨rfl,rfl⟩) hs (by omega) (by omega) (by rw [Nat.zero_add];exact hby) fun c' zs hc' hl'=>?_
  simp only [List.nil_append,Nat.zero_add] at hc' hl' ⊢
  have:=h c' zs hc' hl'
  rw [ownOb_box (by omega)] at this
  exact this
end
theorem strEq_d (own own2:Own) (l m:List Str) (hn:l.length≤140737488351232) (hm:m.length≤140737488351232):DPure Tryz.prog 141 [.sl own (l.map strD),.sl own2 (m.map strD)] (.v (.bool (decide (l=m)))) :=
 dpure_of_gives (fun _ _=>by kernel_rfl) fun w η X vs hr=>by
  simp only [RepL] at hr
  obtain ⟨y,ys,rfl,h1,z,zs,rfl,h2,rfl⟩:=hr
  obtain ⟨A,c,rfl,hc,hf⟩:=strArg h1
  obtain ⟨A2,c2,rfl,hc2,hf2⟩:=strArg h2
  exact strEqual_calls l m A A2 c c2 w hf hf2 hn hm
set_option maxRecDepth 200000 in
set_option maxHeartbeats 4000000 in
theorem uEq_d (own own2:Own) (l m:List Nat) (hn:l.length≤1000000):DPure Tryz.prog 161 [.sl own (l.map u64D),.sl own2 (m.map u64D)] (.v (.bool (decide (l=m)))):=by
 refine dpure_of_dwp mixed Tryz.func161 rfl (fun _ _=>by kernel_rfl) (rs:=[.tmp 4]) rfl (by kernel_rfl) trivial (fun S hS=>?_)
 by_cases hlm:l.length=m.length
 ·have b0:((l.length:Int) != (m.length:Int))=false:=by simp [hlm]
  (refine dd1 @b0 ?_)
  (refine dloop_st (fun t=>List.contains [4,5,13,14,15,16,17,18,19,20,21,22,23,24,25] t) (by kernel_rfl) ?_ (l.length) (fun i f=>i≤l.length∧f 13=.v (.int .i64 ((i:Nat):Int))∧(∀ (r:Nat) (h1:r<l.length) (h2:r<m.length),r<i→l[r]=m[r])) ?_ ?_;(exact wfA);(exact ⟨(by omega),(by exact di0),(fun r _ _ h=>by omega)⟩);intro i g tn hn hT hg hI;obtain ⟨le,q13,hno⟩:=hI;have q0:=hg 0 rfl;have q1:=hg 1 rfl;have q12:=hg 12 rfl;simp (disch:=first | decide | omega | (simp only [nx];first | done | omega)) only [go_sem] at q0 q1 q12;clear hg;have hn':=hn;try simp only [add_next,set_next,grow_next,leave_next,drop_next] at hn')
  by_cases hlt:i<l.length
  ·have hlt2:i<m.length:=by omega
   have b1:decide ((i:Int)<(l.length:Int))=true:=by simp;omega
   have w1:IntKind.i64.wrap ((i:Int)+1)=((i+1:Nat):Int):=IntWalk.i64_in _ ⟨by omega,by omega⟩
   have hx:=getD_map u64D l i hlt
   have hy:=getD_map u64D m i hlt2
   (refine dd5 @b1 @q0 @q1 @q12 @q13 ?_)
   refine ddraw_mk 9 (by kernel_rfl) ?_
   (refine dd7 @b1 @hx @hy @q0 @q1 @q12 @q13 ?_)
   by_cases he:l[i]=m[i]
   ·have b2:((l[i]:Int) != (m[i]:Int))=false:=by simp [he]
    (refine dd6 @b2 @w1 @q0 @q1 @q12 @q13 ?_)
    (refine ⟨by omega,subA,?_⟩;refine ⟨by omega,?_,?_⟩;all_goals (try exact di1 @w1))
    intro r h1 h2 hr
    by_cases e:r=i
    ·subst e;exact he
    ·exact hno r h1 h2 (by omega)
   ·have b2:((l[i]:Int) != (m[i]:Int))=true:=by simp;omega
    (refine dd1 @b2 ?_)
    have hne:decide (l=m)=false:=by
     rw [decide_eq_false_iff_not]
     rintro rfl
     exact he rfl
    rw [hne]
    exact ⟨rfl,subA⟩
  ·have b1:decide ((i:Int)<(l.length:Int))=false:=by simp;omega
   (refine dd5 @b1 @q0 @q1 @q12 @q13 ?_)
   have heq:decide (l=m)=true:=by
    rw [decide_eq_true_eq]
    exact List.ext_getElem hlm fun r h1 h2=>hno r h1 h2 (by omega)
   rw [heq]
   exact ⟨rfl,subA⟩
 ·have b0:((l.length:Int) != (m.length:Int))=true:=by simp;omega
  (refine dd1 @b0 ?_)
  have hne:decide (l=m)=false:=by
   rw [decide_eq_false_iff_not]
   rintro rfl
   exact hlm rfl
  rw [hne]
  exact ⟨rfl,subA⟩
set_option maxRecDepth 200000 in
set_option maxHeartbeats 4000000 in
theorem valEqF_d (g:FuncId) (own own2:Own) (l m:List DVal) (hn:l.length≤1000000) (h:l.length=m.length→∀ (i:Nat) (h1:i<l.length) (h2:i<m.length),DPure Tryz.prog g [encV l[i],encV m[i]] (.v (.bool (eqB l[i] m[i])))):DPure Tryz.prog 162 [.sl own (l.map encV),.sl own2 (m.map encV),.fn (.func g) [] []] (.v (.bool (eqB l m))):=by
 refine dpure_of_dwp mixed Tryz.func162 rfl (fun _ _=>by kernel_rfl) (rs:=[.tmp 6]) rfl (by kernel_rfl) trivial (fun S hS=>?_)
 by_cases hlm:l.length=m.length
 ·have b0:((l.length:Int) != (m.length:Int))=false:=by simp [hlm]
  (refine dd1 @b0 ?_)
  (refine dloop_st (fun t=>List.contains [6,7,8,9,17,18,19,20,21,22,23,24,25,26,27,28,29,30,31] t) (by kernel_rfl) ?_ (l.length) (fun i f=>i≤l.length∧f 17=.v (.int .i64 ((i:Nat):Int))∧(∀ (r:Nat) (h1:r<l.length) (h2:r<m.length),r<i→l[r]=m[r])) ?_ ?_;(exact wfA);(exact ⟨(by omega),(by exact di0),(fun r _ _ h=>by omega)⟩);intro i g tn hn hT hg hI;obtain ⟨le,q17,hno⟩:=hI;have q1:=hg 1 rfl;have q2:=hg 2 rfl;have q15:=hg 15 rfl;have q16:=hg 16 rfl;simp (disch:=first | decide | omega | (simp only [nx];first | done | omega)) only [go_sem] at q1 q2 q15 q16;clear hg;have hn':=hn;try simp only [add_next,set_next,grow_next,leave_next,drop_next] at hn')
  by_cases hlt:i<l.length
  ·have hlt2:i<m.length:=by omega
   have b1:decide ((i:Int)<(l.length:Int))=true:=by simp;omega
   have w1:IntKind.i64.wrap ((i:Int)+1)=((i+1:Nat):Int):=IntWalk.i64_in _ ⟨by omega,by omega⟩
   have hx:=getD_map encV l i hlt
   have hy:=getD_map encV m i hlt2
   (refine dd8 @b1 @hx @hy @q1 @q2 @q15 @q16 @q17 ?_)
   refine DCalls.of_pure (h hlm i hlt hlt2) ?_
   by_cases he:l[i]=m[i]
   ·rw [eqB_true he]
    (refine dd6 @w1 @q1 @q2 @q15 @q16 @q17 ?_)
    (refine ⟨by omega,subA,?_⟩;refine ⟨by omega,?_,?_⟩;all_goals (try exact di1 @w1))
    intro r h1 h2 hr
    by_cases e:r=i
    ·subst e;exact he
    ·exact hno r h1 h2 (by omega)
   ·rw [eqB_false he]
    (refine dd0 ?_)
    have hne:eqB l m=false:=eqB_false (by rintro rfl;exact he rfl)
    rw [hne]
    exact ⟨rfl,subA⟩
  ·have b1:decide ((i:Int)<(l.length:Int))=false:=by simp;omega
   (refine dd6 @b1 @q1 @q2 @q15 @q16 @q17 ?_)
   have heq:eqB l m=true:=eqB_true (List.ext_getElem hlm fun r h1 h2=>hno r h1 h2 (by omega))
   rw [heq]
   exact ⟨rfl,subA⟩
 ·have b0:((l.length:Int) != (m.length:Int))=true:=by simp;omega
  (refine dd1 @b0 ?_)
  have hne:eqB l m=false:=eqB_false (by rintro rfl;exact hlm rfl)
  rw [hne]
  exact ⟨rfl,subA⟩
set_option maxRecDepth 200000 in
set_option maxHeartbeats 4000000 in
theorem valSame_d (k:Nat):∀ (a b:DVal),a.depth≤k→a.weight≤1000000→b.weight≤1000000→DPure Tryz.prog 136 [encV a,encV b] (.v (.bool (eqB a b))):=by
 induction k with
 | zero=>intro a b h;have:=a.depth_pos;omega
 | succ k ih =>
  intro a b hk ha hb
  have hwa:=a.weight_eq
  have hwb:=b.weight_eq
  have hpa:=partsLen a
  have hpb:=partsLen b
  refine dpure_of_dwp mixed Tryz.func136 rfl (fun _ _=>by kernel_rfl) (rs:=[.tmp 4]) rfl (by kernel_rfl) trivial (fun S hS=>?_)
  have fin:∀ (T:St),S.Sub T→eqB a b=false→PFin S T (.v (.bool false)) (.v (.bool (eqB a b))):=fun T hT he=>by rw [he];exact ⟨rfl,hT⟩
  by_cases h1:a.kind=b.kind
  rotate_left
  ·have b1:(a.kind == b.kind)=false:=by simpa using h1
   (refine dd2 @encV_eq @b1 ?_)
   exact fin _ subA (eqB_false (by rintro rfl;exact h1 rfl))
  by_cases h2:a.n=b.n
  rotate_left
  ·have b1:(a.kind == b.kind)=true:=by simpa using h1
   have b2:(a.n == b.n)=false:=by simpa using h2
   (refine dd3 @encV_eq @b1 @b2 ?_)
   exact fin _ subA (eqB_false (by rintro rfl;exact h2 rfl))
  by_cases h3:a.s=b.s
  rotate_left
  ·have b1:(a.kind == b.kind)=true:=by simpa using h1
   have b2:(a.n == b.n)=true:=by simpa using h2
   have b3:(a.s == b.s)=false:=by simpa using h3
   (refine dd4 @encV_eq @b1 @b2 @b3 ?_)
   exact fin _ subA (eqB_false (by rintro rfl;exact h3 rfl))
  have b1:(a.kind == b.kind)=true:=by simpa using h1
  have b2:(a.n == b.n)=true:=by simpa using h2
  have b3:(a.s == b.s)=true:=by simpa using h3
  (refine dd4 @encV_eq @b1 @b2 @b3 ?_)
  refine DCalls.of_pure (strEq_d .no .no a.names b.names (by omega) (by omega)) ?_
  by_cases h4:a.names=b.names
  rotate_left
  ·have b4:decide (a.names=b.names)=false:=by simpa using h4
   (refine dd1 @b4 ?_)
   exact fin _ subA (eqB_false (by rintro rfl;exact h4 rfl))
  have b4:decide (a.names=b.names)=true:=by simpa using h4
  (refine dd1 @b4 ?_)
  refine DCalls.of_pure (uEq_d .no .no a.ids b.ids (by omega)) ?_
  by_cases h5:a.ids=b.ids
  rotate_left
  ·have b5:decide (a.ids=b.ids)=false:=by simpa using h5
   (refine dd1 @b5 ?_)
   exact fin _ subA (eqB_false (by rintro rfl;exact h5 rfl))
  have b5:decide (a.ids=b.ids)=true:=by simpa using h5
  (refine dd1 @b5 ?_)
  refine DCalls.of_pure (valEqF_d 136 .no .no a.parts b.parts (by omega) fun _ i i1 i2=>ih a.parts[i] b.parts[i] (by have:=DVal.depth_part (List.getElem_mem i1);omega) (by have:=DVal.weight_part (List.getElem_mem i1);omega) (by have:=DVal.weight_part (List.getElem_mem i2);omega)) ?_
  (refine dd0 ?_)
  refine pendL ?_
  have:eqB a.parts b.parts=eqB a b:=by
   by_cases h6:a.parts=b.parts
   ·rw [eqB_true h6,eqB_true ((DVal.ext_iff' a b).2 ⟨h1,h2,h3,h4,h5,h6⟩)]
   ·rw [eqB_false h6,eqB_false (by rintro rfl;exact h6 rfl)]
  rw [this]
  rfl
theorem cv_u8 (n:Int):pureRun Tryz.prog (convert 5 3 (.int .u8 n))=some (.int .i64 (IntKind.i64.wrap n)):=by
 kernel_rfl
theorem bin_rem {P:Program} {t:TypeId} {x y:Operand} (k:IntKind) (a b:Int) (hb:b ≠ 0):dbin P .rem t x y (.v (.int k a)) (.v (.int k b))=some (True,.v (.int k (a.tmod b))):=by
 simp [dbin,eqGuard,binOp,Op.intDiv,pureRun_bind,pureRun_pure,hb]
def DQ.inl (P:Program) (rs:List ResultVar) (K:D→St→Prop):DQ
 | .exit _,_,_=>False
 | _,f,S'=>dresL P f S' rs fun ds=>K (one ds) S'
theorem dcalls_inline {P:Program} (hm:P.follows .mixedOrders=true) {g:FuncId} {fn:Func} {c:Code} (hf:P.funcs[g]? = some fn) (hb:fn.body=some c) (hent:∀ vs w,(callFunc g vs).run P w=.ok (.enter g vs) w) {rs:List ResultVar} (hrs:fn.results.toList=rs) {args:List D} (hok:(codeOk fn.ntmps c && fn.results.all (resOk fn.ntmps) && Nat.ble args.length fn.ntmps)=true) {S:St} {K:D→St→Prop}
  (h:S.WF→dwp P c (DQ.inl P rs K) (argF args) S):DCalls P g args S K:=by
 subst hrs
 intro base η w vs hM hr
 refine .inl ⟨hent _ _,?_⟩
 simp only [Bool.and_eq_true] at hok
 obtain ⟨⟨hok1,hok2⟩,hok3⟩:=hok
 have hlen:args.length≤fn.ntmps:=Nat.le_of_ble_eq_true hok3
 have hl:=hr.length
 have hsz:(vs.toArray++Array.replicate (fn.ntmps - vs.toArray.size) undef).size=fn.ntmps:=by simp;omega
 refine calls_of_wp hf hb ?_
 refine dwp_sound hm c (a:={ tmps:=vs.toArray++Array.replicate (fn.ntmps - vs.toArray.size) undef,defers:=[] }) (by rw [hsz];exact hok1) hM (fun t ht=>?_) (h hM.fresh) fun e f' S' η' w' a' k1 k2 k3 k4 k5=>?_
 ·rw [hsz] at ht
  simp only [argF]
  by_cases h1:t<vs.length
  ·obtain ⟨x,hx,hr'⟩:=hr.get t (List.getElem?_eq_getElem (by omega:t<args.length))
   have e1:args.getD t undefD=args[t]:=by rw [List.getD_eq_getElem?_getD,List.getElem?_eq_getElem (by omega:t<args.length)];rfl
   have e2:(vs.toArray++Array.replicate (fn.ntmps - vs.toArray.size) undef).getD t undef=x:=by
    rw [Array.getD_eq_getD_getElem?,Array.getElem?_append_left (by simpa using h1)]
    simp [hx]
   rw [e1,e2]
   exact hr'
  ·have e1:args.getD t undefD=undefD:=by rw [List.getD_eq_getElem?_getD,List.getElem?_eq_none (by omega)];rfl
   have e2:(vs.toArray++Array.replicate (fn.ntmps - vs.toArray.size) undef).getD t undef=undef:=by
    rw [Array.getD_eq_getD_getElem?,Array.getElem?_append_right (by simpa using h1)]
    rw [Array.getElem?_replicate]
    split <;> rfl
   rw [e1,e2]
   simp only [Rep,RepL]
   exact ⟨[],rfl,rfl⟩
 ·have hsz':a'.tmps.size=fn.ntmps:=by rw [k4];exact hsz
  have hd':a'.defers=[]:=k5
  have fin:dresL P f' S' fn.results.toList (fun ds=>K (one ds) S')→a'.defers=[]∧∃ v,(results fn a'.tmps).run P w'=.ok v w'∧∃ d S'' η'' u,K d S''∧Ending.returned v=.returned u∧Rep P w' η'' (Fix P S'' η'') d u∧Goes P base S η w S'' η'' w':=fun hres=>by
   obtain ⟨ds,v,hk,q7,q8⟩:=results_sound k2.mem k3 (by rw [hsz'];exact hok2) hres
   exact ⟨hd',v,q8,one ds,S',η',v,hk,rfl,q7,k2⟩
  cases e with
  | normal=>exact fin k1
  | ret=>exact fin k1
  | exit i=>exact k1.elim
section
variable {P : Program} {S : St} {f : Fm} {K : D → St → Prop}
theorem inl_ret (t:Tmp) (S':St):DQ.inl P [.tmp t] K .ret f S'=K (f t) S':=by simp [DQ.inl,dresL,dres,onVal,one]
theorem inl_ret2 (t u:Tmp) (S':St):DQ.inl P [.tmp t,.tmp u] K .ret f S'=K (.tup [f t,f u]) S':=by simp [DQ.inl,dresL,dres,onVal,one]
theorem inl_ret0 (S':St):DQ.inl P [] K .ret f S'=K undefD S':=by simp [DQ.inl,dresL,one]
theorem inl_normal0 (S':St):DQ.inl P [] K .normal f S'=K undefD S':=by simp [DQ.inl,dresL,one]
end
theorem inl_cell_ret {P:Program} {f:Fm} {K:D→St→Prop} (x:Tmp) (t:TypeId) (S':St):DQ.inl P [.cell x t] K .ret f S'=dcellR P S' t (f x) (fun r=>K r S'):=onVal_cell x t _
attribute [go_sem] inl_cell_ret
attribute [go_sem] inl_ret inl_ret2 inl_ret0 inl_normal0
def loopN (P:Program) (c:Code) (Q:DQ):Nat→Fm→St→Prop
 | 0,_,_=>False
 | n+1,f,S=>dwp P c (DQ.then (loopN P c Q n) Q) f S
theorem dloop_fuel {P:Program} {c:Code} {Q:DQ} {f:Fm} {S:St} (n:Nat) (hS:S.WF) (hc:wrOk (fun _=>true) c=true) (h:loopN P c Q n f S):DLoop (dwp P c) Q f S:=by
 refine dloop_down (fun _=>true) hc hS (fun m g T=>loopN P c Q m g T) n h fun m g T hT _ hI=>?_
 cases m with
 | zero=>exact hI.elim
 | succ m =>
  refine dwp_mono c (fun e f2 S2 hq=>?_) hI
  cases e with
  | normal=>exact ⟨m,S2.ob,by omega,fun _ _ h=>h,hq⟩
  | exit i=>exact hq
  | ret=>exact hq
theorem loopN_eq {P:Program} {c:Code} {Q:DQ} {f:Fm} {S:St} (n:Nat):loopN P c Q (n+1) f S=dwp P c (DQ.then (loopN P c Q n) Q) f S:=Eq.trans (Eq.refl _) (Eq.refl _)
section
variable {P : Program} {t : TypeId} {x y : Operand}
end
theorem cv_u64u8 (n:Int):pureRun Tryz.prog (convert 122 5 (.int .u64 n))=some (.int .u8 (IntKind.u8.wrap n)):=by kernel_rfl
theorem cv_i64u64 (n:Int):pureRun Tryz.prog (convert 3 122 (.int .i64 n))=some (.int .u64 (IntKind.u64.wrap n)):=by kernel_rfl
theorem cv_u64i64 (n:Int):pureRun Tryz.prog (convert 122 3 (.int .u64 n))=some (.int .i64 (IntKind.i64.wrap n)):=by kernel_rfl
theorem cv_u8u64 (n:Int):pureRun Tryz.prog (convert 5 122 (.int .u8 n))=some (.int .u64 (IntKind.u64.wrap n)):=by kernel_rfl
theorem cv_i64u8 (n:Int):pureRun Tryz.prog (convert 3 5 (.int .i64 n))=some (.int .u8 (IntKind.u8.wrap n)):=by kernel_rfl
theorem u8T_u8:u8T Tryz.prog 5=true:=by kernel_rfl
attribute [go_sem] u8T_u8
attribute [go_sem] cv_u64u8 cv_i64u64 cv_u64i64 cv_u8u64 cv_i64u8
theorem name_d (s:Str) (hs:s.length≤maxLen):DPure Tryz.prog 101 [.v (sv s)] (.v (.bool (nameB s))) :=
 dpure_of_gives (fun _ _=>by kernel_rfl) fun w η X vs hr=>by
  simp only [RepL,Rep] at hr
  obtain ⟨x,xs,rfl,rfl,rfl⟩:=hr
  exact name_calls s w hs
theorem growR_keep {S:St} {own:Own} {e:TypeId} {n j:Nat} {o:Ob} (hW:S.WF) (h:S.ob j=some o) (hn:∀ g,own=.row g→j ≠ g):(S.grow own e n).ob j=some o:=by
 have hj:=hW.lt h
 have h3:j ≠ S.next:=by omega
 cases own with
 | row g =>
  have h4:=hn g rfl
  simp [St.grow,St.leave,St.add,St.drop,h3,h4,h]
 | no=>simp [St.grow,St.leave,St.add,h3,h]
 | full=>simp [St.grow,St.leave,St.add,h3,h]
theorem growR_new {S:St} {own:Own} {e:TypeId} {n:Nat}:(S.grow own e n).ob S.next=some (.row e n):=by
 cases own <;> simp [St.grow,St.leave,St.add,St.drop]
theorem growR_WF {S:St} {own:Own} {e:TypeId} {n:Nat} (hW:S.WF):(S.grow own e n).WF:=by
 cases own with
 | row g =>
  have h:(S.drop g).WF:=fun j hj=>by
   simp only [St.drop]
   split
   ·rfl
   ·exact hW j hj
  exact h.add _
 | no=>exact hW.add _
 | full=>exact hW.add _
inductive DLens where
 | mk (kind:Int) (a b:Str) (typ:DSch) (base back:DVal) (pairs:List (DVal × DVal)) (inner:List DLens)
def DLens.kind:DLens→Int | .mk k _ _ _ _ _ _ _=>k
def DLens.a:DLens→Str | .mk _ a _ _ _ _ _ _=>a
def DLens.b:DLens→Str | .mk _ _ b _ _ _ _ _=>b
def DLens.typ:DLens→DSch | .mk _ _ _ t _ _ _ _=>t
def DLens.base:DLens→DVal | .mk _ _ _ _ u _ _ _=>u
def DLens.back:DLens→DVal | .mk _ _ _ _ _ v _ _=>v
def DLens.pairs:DLens→List (DVal × DVal) | .mk _ _ _ _ _ _ ps _=>ps
def DLens.inner:DLens→List DLens | .mk _ _ _ _ _ _ _ is=>is
def sCs (t:DSch):List D:=[.v (.int .i64 t.kind),.sl .no (t.words.map strD),.sl .no (t.parts.map encS)]
def vCs (u:DVal):List D:=[.v (.int .i64 u.kind),.v (.int .i64 u.n),strD u.s,.sl .no (u.names.map strD),.sl .no (u.ids.map u64D),.sl .no (u.parts.map encV)]
theorem agg_sCs (t:DSch):D.agg (sCs t)=encS t:=(encS_eq t).symm
theorem agg_vCs (u:DVal):D.agg (vCs u)=encV u:=(encV_eq u).symm
theorem aggS_fold (t:DSch):D.agg [.v (.int .i64 t.kind),.sl .no (t.words.map strD),.sl .no (t.parts.map encS)]=encS t:=(encS_eq t).symm
theorem aggV_fold (u:DVal):D.agg [.v (.int .i64 u.kind),.v (.int .i64 u.n),D.v (sv u.s),.sl .no (u.names.map strD),.sl .no (u.ids.map u64D),.sl .no (u.parts.map encV)]=encV u:=(encV_eq u).symm
def encPr (p:DVal × DVal):D:=.agg (vCs p.1++vCs p.2)
theorem encPr_eq (p:DVal × DVal):encPr p=.agg [.v (.int .i64 p.1.kind),.v (.int .i64 p.1.n),strD p.1.s,.sl .no (p.1.names.map strD),.sl .no (p.1.ids.map u64D),.sl .no (p.1.parts.map encV),.v (.int .i64 p.2.kind),.v (.int .i64 p.2.n),strD p.2.s,.sl .no (p.2.names.map strD),.sl .no (p.2.ids.map u64D),.sl .no (p.2.parts.map encV)]:=rfl
def lnCs (k:Int) (a b:Str) (t:DSch) (u v:DVal) (ps is:D):List D:=.v (.int .i64 k)::strD a::strD b::(sCs t++(vCs u++(vCs v++[ps,is])))
mutual
def encL:DLens→D
 | .mk k a b t u v ps is=>.agg (lnCs k a b t u v (.sl .no (ps.map encPr)) (.sl .no (encLs is)))
def encLs:List DLens→List D
 | []=>[]
 | l::ls=>encL l::encLs ls
end
theorem encLs_map:∀ l:List DLens,encLs l=l.map encL
 | []=>rfl
 | p::l=>by simp [encLs,encLs_map l]
theorem encL_eq (l:DLens):encL l=.agg [.v (.int .i64 l.kind),strD l.a,strD l.b,.v (.int .i64 l.typ.kind),.sl .no (l.typ.words.map strD),.sl .no (l.typ.parts.map encS),
  .v (.int .i64 l.base.kind),.v (.int .i64 l.base.n),strD l.base.s,.sl .no (l.base.names.map strD),.sl .no (l.base.ids.map u64D),.sl .no (l.base.parts.map encV),
  .v (.int .i64 l.back.kind),.v (.int .i64 l.back.n),strD l.back.s,.sl .no (l.back.names.map strD),.sl .no (l.back.ids.map u64D),.sl .no (l.back.parts.map encV),.sl .no (l.pairs.map encPr),.sl .no (l.inner.map encL)]:=by
 obtain ⟨k,a,b,t,u,v,ps,is⟩:=l
 simp only [encL,encLs_map,lnCs,sCs,vCs,DLens.kind,DLens.a,DLens.b,DLens.typ,DLens.base,DLens.back,DLens.pairs,DLens.inner,List.cons_append,List.nil_append]
theorem cells_encL (l:DLens):(encL l).cells.length=20:=by rw [encL_eq];rfl
theorem width_encL (l:DLens):(encL l).width=20:=cells_encL l
theorem okCell_encL (l:DLens):(encL l).okCell=true:=by rw [encL_eq];rfl
theorem agg_encL (l:DLens):D.agg (encL l).cells=encL l:=by rw [encL_eq];rfl
theorem aggL_fold (l:DLens):D.agg [.v (.int .i64 l.kind),D.v (sv l.a),D.v (sv l.b),.v (.int .i64 l.typ.kind),.sl .no (l.typ.words.map strD),.sl .no (l.typ.parts.map encS),
  .v (.int .i64 l.base.kind),.v (.int .i64 l.base.n),D.v (sv l.base.s),.sl .no (l.base.names.map strD),.sl .no (l.base.ids.map u64D),.sl .no (l.base.parts.map encV),
  .v (.int .i64 l.back.kind),.v (.int .i64 l.back.n),D.v (sv l.back.s),.sl .no (l.back.names.map strD),.sl .no (l.back.ids.map u64D),.sl .no (l.back.parts.map encV),.sl .no (l.pairs.map encPr),.sl .no (l.inner.map encL)]=encL l:=(encL_eq l).symm
theorem cells_encPr (p:DVal × DVal):(encPr p).cells.length=12:=rfl
theorem width_encPr (p:DVal × DVal):(encPr p).width=12:=rfl
theorem okCell_encPr (p:DVal × DVal):(encPr p).okCell=true:=rfl
theorem closed_vCs (u:DVal):allL (fun _=>False) (vCs u):=by
 have:=closed_encV u
 rw [encV_eq] at this
 simp only [D.closed,D.all] at this
 exact this
theorem closed_sCs (u:DSch):allL (fun _=>False) (sCs u):=by
 have:=closed_encS u
 rw [encS_eq] at this
 simp only [D.closed,D.all] at this
 exact this
theorem closed_encPr (p:DVal × DVal):(encPr p).closed:=by
 simp only [encPr,D.closed,D.all]
 exact allL_iff.2 fun d hd=>(List.mem_append.1 hd).elim (allL_iff.1 (closed_vCs p.1) d) (allL_iff.1 (closed_vCs p.2) d)
theorem frz_vCs (u:DVal):frzL (vCs u)=vCs u:=by
 have h:=frz_encV u
 rw [encV_eq] at h
 simp only [D.frz] at h
 injection h
theorem frz_sCs (u:DSch):frzL (sCs u)=sCs u:=by
 have h:=frz_encS u
 rw [encS_eq] at h
 simp only [D.frz] at h
 injection h
theorem frzL_app (a b:List D):frzL (a++b)=frzL a++frzL b:=by rw [frzL_map,frzL_map,frzL_map,List.map_append]
theorem frz_encPr (p:DVal × DVal):(encPr p).frz=encPr p:=by simp only [encPr,D.frz,frzL_app,frz_vCs]
theorem frz_mapPr (l:List (DVal × DVal)):frzL (l.map encPr)=l.map encPr:=by
 rw [frzL_map,List.map_map]
 exact List.map_congr_left fun p _=>frz_encPr p
mutual
theorem closed_encL:∀ l:DLens,(encL l).closed
 | .mk k a b t u v ps is=>by
  simp only [encL,lnCs,D.closed,D.all,allL,strD,true_and]
  refine allL_iff.2 fun d hd=>?_
  rcases List.mem_append.1 hd with hd | hd
  ·exact allL_iff.1 (closed_sCs t) d hd
  rcases List.mem_append.1 hd with hd | hd
  ·exact allL_iff.1 (closed_vCs u) d hd
  rcases List.mem_append.1 hd with hd | hd
  ·exact allL_iff.1 (closed_vCs v) d hd
  rcases List.mem_cons.1 hd with rfl | hd
  ·simp only [D.all,Own.all,true_and]
   exact allL_iff.2 fun d hd=>by
    obtain ⟨p,_,rfl⟩:=List.mem_map.1 hd
    exact closed_encPr p
  ·obtain rfl:=List.mem_singleton.1 hd
   simp only [D.all,Own.all,true_and]
   exact closed_encLs is
theorem closed_encLs:∀ l:List DLens,allL (fun _=>False) (encLs l)
 | []=>trivial
 | p::ps=>by simp only [encLs,allL];exact ⟨closed_encL p,closed_encLs ps⟩
end
mutual
theorem frz_encL:∀ l:DLens,(encL l).frz=encL l
 | .mk k a b t u v ps is=>by simp only [encL,lnCs,D.frz,frzL,frzL_app,frz_sCs,frz_vCs,frz_mapPr,frz_encLs is,strD]
theorem frz_encLs:∀ l:List DLens,frzL (encLs l)=encLs l
 | []=>rfl
 | p::ps=>by simp only [encLs,frzL,frz_encL p,frz_encLs ps]
end
theorem frz_mapL (l:List DLens):frzL (l.map encL)=l.map encL:=by rw [← encLs_map,frz_encLs]
theorem take_encL (l:DLens):(encL l).cells.take 20=(encL l).cells:=List.take_of_length_le (by rw [cells_encL];omega)
theorem take_encPr (p:DVal × DVal):(encPr p).cells.take 12=(encPr p).cells:=List.take_of_length_le (by rw [cells_encPr];omega)
theorem agg_encPr (p:DVal × DVal):D.agg (encPr p).cells=encPr p:=Eq.trans (Eq.refl _) (Eq.refl _)
attribute [go_sem] cells_encL okCell_encL agg_encL cells_encPr okCell_encPr take_encL take_encPr agg_encPr
mutual
def okL:DLens→Prop
 | .mk k a b t u v ps is=>I64 k∧a.length≤maxLen∧b.length≤maxLen∧okS t∧okV u∧okV v∧(∀ p∈ps,okV p.1∧okV p.2)∧ps.length≤140737488351232∧is.length≤140737488351232∧okLs is
def okLs:List DLens→Prop
 | []=>True
 | p::ps=>okL p∧okLs ps
end
theorem okLs_iff:∀ {l:List DLens},okLs l↔∀ p∈l,okL p
 | []=>by simp [okLs]
 | p::l=>by simp [okLs,okLs_iff (l:=l)]
theorem okL_eq (l:DLens):okL l↔I64 l.kind∧l.a.length≤maxLen∧l.b.length≤maxLen∧okS l.typ∧okV l.base∧okV l.back∧(∀ p∈l.pairs,okV p.1∧okV p.2)∧l.pairs.length≤140737488351232∧l.inner.length≤140737488351232∧∀ p∈l.inner,okL p:=by
 obtain ⟨k,a,b,t,u,v,ps,is⟩:=l
 simp only [okL,okLs_iff,DLens.kind,DLens.a,DLens.b,DLens.typ,DLens.base,DLens.back,DLens.pairs,DLens.inner]
def zeroL:DLens:=.mk 0 [] [] (.mk 0 [] []) (.mk 0 0 [] [] [] []) (.mk 0 0 [] [] [] []) [] []
def greatS (s:DSch):Bool:=decide (roomS 12 s 300<0)
def greatV (v:DVal):Bool:=decide (roomV 12 v 300<0)
def roomL:Nat→DLens→Bool
 | 0,_=>false
 | d+1,l=>decide (l.inner.length≤2) && decide (l.pairs.length≤20) && decide (l.a.length≤100) && decide (l.b.length≤100) && !greatS l.typ && !greatV l.base && !greatV l.back && l.pairs.all (fun p => !greatV p.1 && !greatV p.2) && l.inner.all (roomL d)
def greatL (l:DLens):Bool := !roomL 8 l
end Go.Proofs.YtogbklnkpjjkoaaGreatDoor
namespace Go.Proofs.YtogbklnkpjjkoaaGreatDoor
open Go.ChangeShapes Go.WideShapes Go.ChangeAt Go.RowKit Go.Deep Go.Joins
section
variable {H : Type} {enc : TypeId × Value → H} {w : World}
theorem open_structs_sz {P:Program} {α:Type} (e:α→D) {t el:TypeId} {size bytes:Nat} (ht:P.underlying t=some (.slice el)) (hc:P.cellsOf el=size) (hs0:0<size) (hby:P.bytesOf el=bytes) (hb0:0<bytes) (Q:α→List Value→Prop)
  {fuel:Nat} {cs:List Value} {x:DataW H × List MemPlace}
  (elem:∀ (fuel:Nat) (cs:List Value) (y:DataW H × List MemPlace),SizeOf.sizeOf y.1<SizeOf.sizeOf x.1→DataW.trod enc P w 0 (fun _=>true) true fuel el cs=some y→Sized P el y.1→cs.length=size→∃ d,Q d cs)
  (hag:∀ a,(e a).isAgg=true) (hrep:∀ d cs,Q d cs→∀ (η:Names) (X:Nat→Nat→Prop),(∀ b i,X b i)→Rep P w η X (e d) (.agg cs.toArray))
  (h:DataW.trod enc P w 0 (fun _=>true) true fuel t cs=some x) (hs:Sized P t x.1) :
  ∃ l:List α,(∀ a∈l,∃ cs,Q a cs)∧l.length≤140737488351232∧∃ u,cs=[u]∧∀ (η:Names) (X:Nat→Nat→Prop),(∀ b i,X b i)→Rep P w η X (.sl .no (l.map e)) u:=by
 obtain ⟨A,c,l,hcs,hlc,hr,hb⟩:=open_rows_sz (α:=α × List Value) ht hc hs0 hby hb0 (fun b o d=>d.2.length=size∧Q d.1 d.2∧w.rangeAt b o d.2) (fun fuel cs x b o hlt _ hx hsx hlen hcell=>by
  obtain ⟨d,hd⟩:=elem fuel cs x hlt hx hsx hlen
  exact ⟨(d,cs),hlen,hd,hcell⟩) h hs
 have hbb:l.length≤140737488351232:=by
  have:c * 1≤c * bytes:=Nat.mul_le_mul_left _ hb0
  omega
 refine ⟨l.map (·.1),fun a ha=>?_,by rw [List.length_map];exact hbb,_,hcs,fun η X hX=>?_⟩
 ·obtain ⟨d,hd,rfl⟩:=List.mem_map.1 ha
  obtain ⟨i,hi,rfl⟩:=List.getElem_of_mem hd
  obtain ⟨b,o,_,_,hf⟩:=hr (by omega)
  exact ⟨_,(hf i _ (List.getElem?_eq_getElem hi)).2.1⟩
 ·rcases Nat.eq_zero_or_pos l.length with h0 | h0
  ·obtain rfl:l=[]:=List.eq_nil_of_length_eq_zero h0
   simp only [Rep,List.map_nil,List.length_nil]
   exact ⟨A,c,rfl,Nat.zero_le _,by omega,trivial,fun h=>absurd h (by omega)⟩
  ·obtain ⟨b,o,rfl,hbl,hf⟩:=hr h0
   have hget:∀ (i:Nat) (a:α),(l.map (·.1))[i]? = some a→∃ C,l[i]? = some (a,C)∧((l[i]?.map (·.2)).getD [])=C:=by
    intro i a ha
    rw [List.getElem?_map] at ha
    cases hi:l[i]? with
    | none=>rw [hi] at ha;cases ha
    | some d =>
     rw [hi] at ha
     obtain ⟨d1,d2⟩:=d
     simp at ha
     exact ⟨d2,by rw [ha],rfl⟩
   have hlen:l.length=(l.map (·.1)).length:=by simp
   rw [hlen] at hlc hbb ⊢
   refine rep_structs (F:=(·<w.heap.size)) e size hs0 (fun b i _=>hX b i) (b:=b) (o:=o) (C:=fun i=>(l[i]?.map (·.2)).getD []) (fun _=>⟨rfl,hbl⟩) (fun i a ha=>?_) (fun i a ha=>?_) hag hlc hbb
   ·obtain ⟨C,h1,h2⟩:=hget i a ha
    simp only [h2]
    have:=hf i _ h1
    exact ⟨this.1,this.2.2⟩
   ·obtain ⟨C,h1,h2⟩:=hget i a ha
    simp only [h2]
    exact hrep a C (hf i _ h1).2.1 η X hX
theorem trod_struct8 {P:Program} {t:TypeId} {f0 f1 f2 f3 f4 f5 f6 f7:Field} {fuel:Nat} {cs:List Value} {x:DataW H × List MemPlace} (ht:P.underlying t=some (.struct #[f0,f1,f2,f3,f4,f5,f6,f7])) (h:DataW.trod enc P w 0 (fun _=>true) true fuel t cs=some x) :
  ∃ y0 y1 y2 y3 y4 y5 y6 y7 n,x.1=.agg [y0.1,y1.1,y2.1,y3.1,y4.1,y5.1,y6.1,y7.1]∧cs.length=P.cellsOf t∧DataW.trod enc P w 0 (fun _=>true) true n f0.type ((cs.drop f0.offset).take (P.cellsOf f0.type))=some y0 ∧
   DataW.trod enc P w 0 (fun _=>true) true n f1.type ((cs.drop f1.offset).take (P.cellsOf f1.type))=some y1∧DataW.trod enc P w 0 (fun _=>true) true n f2.type ((cs.drop f2.offset).take (P.cellsOf f2.type))=some y2 ∧
   DataW.trod enc P w 0 (fun _=>true) true n f3.type ((cs.drop f3.offset).take (P.cellsOf f3.type))=some y3∧DataW.trod enc P w 0 (fun _=>true) true n f4.type ((cs.drop f4.offset).take (P.cellsOf f4.type))=some y4 ∧
   DataW.trod enc P w 0 (fun _=>true) true n f5.type ((cs.drop f5.offset).take (P.cellsOf f5.type))=some y5∧DataW.trod enc P w 0 (fun _=>true) true n f6.type ((cs.drop f6.offset).take (P.cellsOf f6.type))=some y6 ∧
   DataW.trod enc P w 0 (fun _=>true) true n f7.type ((cs.drop f7.offset).take (P.cellsOf f7.type))=some y7:=by
 obtain ⟨xs,n,_,rfl,hl,hlen,hf⟩:=DataW.trod_struct ht h
 match xs,hlen with
 | [y0,y1,y2,y3,y4,y5,y6,y7],_=>exact ⟨y0,y1,y2,y3,y4,y5,y6,y7,n,by simp,hl,by simpa using hf 0 f0 rfl,by simpa using hf 1 f1 rfl,by simpa using hf 2 f2 rfl,by simpa using hf 3 f3 rfl,by simpa using hf 4 f4 rfl,by simpa using hf 5 f5 rfl,by simpa using hf 6 f6 rfl,by simpa using hf 7 f7 rfl⟩
end
section
variable {H : Type} {enc : TypeId × Value → H} {w : World}
theorem repCells_val {η:Names} {X:Nat→Nat→Prop} (hX:∀ b i,X b i) {v:DVal} {cs:List Value} (h:IsVal w (·<w.heap.size) v cs):RepL Tryz.prog w η X (vCs v) cs∧∀ u∈cs,u.oneCell'=true:=by
 have hr:=rep_val (P:=Tryz.prog) (w:=w) (η:=η) (X:=X) (F:=(·<w.heap.size)) (fun b i _=>hX b i) h
 rw [← agg_vCs v] at hr
 simp only [Rep] at hr
 obtain ⟨vs,h1,h2,h3⟩:=hr
 injection h1 with h1
 have h1':vs=cs:=by simpa using (congrArg Array.toList h1).symm
 subst h1'
 exact ⟨h2,h3⟩
theorem repCells_sch {η:Names} {X:Nat→Nat→Prop} (hX:∀ b i,X b i) {v:DSch} {cs:List Value} (h:IsSch w (·<w.heap.size) v cs):RepL Tryz.prog w η X (sCs v) cs∧∀ u∈cs,u.oneCell'=true:=by
 have hr:=rep_sch (P:=Tryz.prog) (w:=w) (η:=η) (X:=X) (F:=(·<w.heap.size)) (fun b i _=>hX b i) h
 rw [← agg_sCs v] at hr
 simp only [Rep] at hr
 obtain ⟨vs,h1,h2,h3⟩:=hr
 injection h1 with h1
 have h1':vs=cs:=by simpa using (congrArg Array.toList h1).symm
 subst h1'
 exact ⟨h2,h3⟩
def IsPr (w:World) (p:DVal × DVal) (cs:List Value):Prop:=(okV p.1∧okV p.2)∧∀ (η:Names) (X:Nat→Nat→Prop),(∀ b i,X b i)→Rep Tryz.prog w η X (encPr p) (.agg cs.toArray)
def IsLn (w:World) (l:DLens) (cs:List Value):Prop:=okL l∧∀ (η:Names) (X:Nat→Nat→Prop),(∀ b i,X b i)→Rep Tryz.prog w η X (encL l) (.agg cs.toArray)
set_option maxRecDepth 20000 in
theorem open_pair_trod {fuel:Nat} {cs:List Value} {x:DataW H × List MemPlace} (h:DataW.trod enc Tryz.prog w 0 (fun _=>true) true fuel 111 cs=some x) (hs:Sized Tryz.prog 111 x.1):∃ p,IsPr w p cs:=by
 obtain ⟨y0,y1,m,hx,hl,g0,g1⟩:=trod_struct2 Tryz.underlying111 h
 have k0:Tryz.prog.cellsOf 43=6:=by kernel_rfl
 have k1:Tryz.prog.cellsOf 111=12:=by kernel_rfl
 rw [k1] at hl
 rw [hx] at hs
 simp only [k0] at g0 g1
 obtain ⟨u,hu⟩:=open_value_trod _ _ _ _ (Nat.lt_succ_self _) g0 (sized_each Tryz.underlying111 hs (j:=0) rfl rfl)
 obtain ⟨v,hv⟩:=open_value_trod _ _ _ _ (Nat.lt_succ_self _) g1 (sized_each Tryz.underlying111 hs (j:=1) rfl rfl)
 refine ⟨(u,v),⟨hu.ok,hv.ok⟩,fun η X hX=>?_⟩
 obtain ⟨r1,c1⟩:=repCells_val hX hu
 obtain ⟨r2,c2⟩:=repCells_val hX hv
 have e:cs=(cs.drop 0).take 6++(cs.drop 6).take 6:=by
  rw [List.drop_zero,show (cs.drop 6).take 6=cs.drop 6 from List.take_of_length_le (by rw [List.length_drop];omega),List.take_append_drop]
 rw [encPr]
 simp only [Rep]
 refine ⟨cs,rfl,?_,fun y hy=>?_⟩
 ·rw [e];exact r1.append r2
 ·rw [e] at hy
  rcases List.mem_append.1 hy with hy | hy
  ·exact c1 y hy
  ·exact c2 y hy
set_option maxRecDepth 20000 in
set_option maxHeartbeats 1000000 in
theorem open_lens_trod:∀ (n fuel:Nat) (cs:List Value) (x:DataW H × List MemPlace),SizeOf.sizeOf x.1<n→DataW.trod enc Tryz.prog w 0 (fun _=>true) true fuel 47 cs=some x→Sized Tryz.prog 47 x.1→∃ l,IsLn w l cs
 | 0,_,_,_,h,_,_=>absurd h (by omega)
 | n+1,fuel,cs,x,hn,h,hs=>by
  obtain ⟨y0,y1,y2,y3,y4,y5,y6,y7,m,hx,hl,g0,g1,g2,g3,g4,g5,g6,g7⟩:=trod_struct8 Tryz.underlying47 h
  obtain ⟨x1,x2⟩:=x
  simp only at hx
  subst hx
  have k0:Tryz.prog.cellsOf 3=1:=by kernel_rfl
  have k1:Tryz.prog.cellsOf 9=1:=by kernel_rfl
  have k2:Tryz.prog.cellsOf 25=3:=by kernel_rfl
  have k3:Tryz.prog.cellsOf 43=6:=by kernel_rfl
  have k4:Tryz.prog.cellsOf 44=1:=by kernel_rfl
  have k5:Tryz.prog.cellsOf 45=1:=by kernel_rfl
  have k6:Tryz.prog.cellsOf 47=20:=by kernel_rfl
  rw [k6] at hl
  match cs,hl with
  | [x0,x1,x2,x3,x4,x5,x6,x7,x8,x9,x10,x11,x12,x13,x14,x15,x16,x17,x18,x19],_ =>
   simp only [k0,k1,k2,k3,k4,k5] at g0 g1 g2 g3 g4 g5 g6 g7
   obtain ⟨q0,e0,_,w0⟩:=DataW.trod_int Tryz.underlying3 g0
   obtain ⟨q1,e1,_,w1⟩:=DataW.trod_string Tryz.underlying9 g1
   obtain ⟨q2,e2,_,w2⟩:=DataW.trod_string Tryz.underlying9 g2
   simp at e0 e1 e2
   rw [sv_of] at e1 e2
   simp only [List.drop_succ_cons,List.drop_zero,List.take_succ_cons,List.take_zero] at g3 g4 g5 g6 g7
   obtain ⟨t,ht⟩:=open_schema_trod _ _ _ _ (Nat.lt_succ_self _) g3 (sized_each Tryz.underlying47 hs (j:=3) rfl rfl)
   obtain ⟨u,hu⟩:=open_value_trod _ _ _ _ (Nat.lt_succ_self _) g4 (sized_each Tryz.underlying47 hs (j:=4) rfl rfl)
   obtain ⟨v,hv⟩:=open_value_trod _ _ _ _ (Nat.lt_succ_self _) g5 (sized_each Tryz.underlying47 hs (j:=5) rfl rfl)
   obtain ⟨ps,p1,p2,pu,p3,p4⟩:=open_structs_trod (P:=Tryz.prog) encPr (size:=12) (bytes:=208) Tryz.underlying44 (by kernel_rfl) (by omega) (by kernel_rfl) (by omega) (fun o cs=>IsPr w o cs) (fun fuel cs x hx hsx _=>open_pair_trod hx hsx) width_encPr (fun _=>rfl) (fun o cs hq η X hX=>hq.2 η X hX) g6 (sized_each Tryz.underlying47 hs (j:=6) rfl rfl)
   have hsz:SizeOf.sizeOf y7.1<SizeOf.sizeOf (DataW.agg [y0.1,y1.1,y2.1,y3.1,y4.1,y5.1,y6.1,y7.1]):=by
    have:=List.sizeOf_lt_of_mem (show y7.1∈[y0.1,y1.1,y2.1,y3.1,y4.1,y5.1,y6.1,y7.1] by simp)
    simp only [DataW.agg.sizeOf_spec]
    omega
   obtain ⟨is,i1,i2,iu,i3,i4⟩:=open_structs_sz (P:=Tryz.prog) encL (size:=20) (bytes:=352) Tryz.underlying45 (by kernel_rfl) (by omega) (by kernel_rfl) (by omega) (fun o cs=>IsLn w o cs) (fun fuel cs y hlt hx hsx _=>open_lens_trod n fuel cs y (by simp only at hn;omega) hx hsx) (fun a=>by rw [encL_eq];rfl) (fun o cs hq η X hX=>hq.2 η X hX) g7 (sized_each Tryz.underlying47 hs (j:=7) rfl rfl)
   obtain rfl:x18=pu:=by simpa using p3
   obtain rfl:x19=iu:=by simpa using i3
   have z1:q1.data.toList.length≤maxLen:=by simpa using w1
   have z2:q2.data.toList.length≤maxLen:=by simpa using w2
   refine ⟨.mk q0 q1.data.toList q2.data.toList t u v ps is,(okL_eq _).2 ⟨i64_of w0,z1,z2,ht.ok,hu.ok,hv.ok,fun p hp=>by obtain ⟨cs,hq⟩:=p1 p hp;exact hq.1,p2,i2,fun x hx=>by obtain ⟨cs,hq⟩:=i1 x hx;exact hq.1⟩,fun η X hX=>?_⟩
   obtain ⟨r1,c1⟩:=repCells_sch hX ht
   obtain ⟨r2,c2⟩:=repCells_val hX hu
   obtain ⟨r3,c3⟩:=repCells_val hX hv
   rw [encL,encLs_map]
   simp only [Rep]
   refine ⟨_,rfl,?_,fun y hy=>?_⟩
   ·simp only [lnCs,RepL]
    refine ⟨x0,_,rfl,by simp only [Rep];rw [e0],x1,_,rfl,by simp only [strD,Rep];rw [e1],x2,_,rfl,by simp only [strD,Rep];rw [e2],?_⟩
    exact r1.append (r2.append (r3.append (by simp only [RepL];exact ⟨_,_,rfl,p4 η X hX,_,_,rfl,i4 η X hX,rfl⟩)))
   ·have hsl:∀ {o:D→D} {es:List D} {y:Value},Rep Tryz.prog w η X (.sl .no es) y→y.oneCell'=true:=fun h=>by
     simp only [Rep] at h
     obtain ⟨A,c,rfl,_⟩:=h
     rfl
    have hy':y=x0∨y=x1∨y=x2∨y∈[x3,x4,x5]∨y∈[x6,x7,x8,x9,x10,x11]∨y∈[x12,x13,x14,x15,x16,x17]∨y=x18∨y=x19:=by
     simp only [List.mem_cons,List.not_mem_nil,or_false] at hy ⊢
     simp only [or_assoc] at hy ⊢
     exact hy
    rcases hy' with rfl | rfl | rfl | h | h | h | rfl | rfl
    ·rw [e0];rfl
    ·rw [e1];rfl
    ·rw [e2];rfl
    ·exact c1 y h
    ·exact c2 y h
    ·exact c3 y h
    ·exact hsl (o:=id) (p4 η X hX)
    ·exact hsl (o:=id) (i4 η X hX)
end
end Go.Proofs.YtogbklnkpjjkoaaGreatDoor
namespace Go.Proofs.YtogbklnkpjjkoaaGreatDoor
open Go.RowKit

section
variable {P : Program} {base : Nat} {S : St} {η : Names} {w : World}
theorem run_append_zeros (w:World) (t tx ty e:TypeId) (i:TypeInfo) (z:Value) (kk:IntKind) (ht:P.underlying t=some (.slice e)) (hi:P.info? e=some i) (hz:i.zero=some z) (hx:P.underlying tx=some (.int kk)) (base:Option Addr) (sLen sCap:Nat) (olds:List Value)
  (hold:(Builtin.firstCells i.size sLen (.slice base sLen sCap)).run P w.drew=.ok olds.toArray w.drew) (m:Nat) (k:IntKind)
  (hg:sCap<sLen+m) (h63:((sLen+m:Nat):Int)≤9223372036854775807) (hfit:Builtin.nextslicecap (sLen+m) sCap * i.bytes≤281474976710656) (hm:m * i.bytes≤281474976710656) (hm0:m * i.size ≠ 0) :
  (Builtin.append_ #[t,tx] ty #[.slice base sLen sCap,.int k m]).run P w =
   .ok (.slice (some ⟨w.heap.size,0,none⟩) (sLen+m) (grownCap w (sLen+m) sCap e))
    (w.drew.alloc (.cells (olds.toArray++Builtin.zeroCells z.cells m++Builtin.zeroCells z.cells (grownCap w (sLen+m) sCap e - (sLen+m))) e)):=by
 have hn:¬ (sLen+m≤sCap):=by omega
 have h63':¬ (9223372036854775807<((sLen:Int)+(m:Int))):=by omega
 have h48':¬ (281474976710656<Builtin.nextslicecap (sLen+m) sCap * i.bytes):=by omega
 have hw:IntKind.i64.wrap (m:Int)=m:=(by rw [IntKind.wrap_i64];omega)
 have h0:¬ ((m:Int)<0):=by omega
 have h1:¬ (281474976710656<(m:Int) * (i.bytes:Int)):=by
  have:(m:Int) * (i.bytes:Int)=((m * i.bytes:Nat):Int):=by simp
  omega
 simp [Builtin.append_,run_underlying ht,run_underlying hx,sizeOf,typeInfo,zeroValue,hi,hz,asInt,asIntOf,hw,h0,h1,hn,h63',h48',Question.forced,hold,newRow,grownCap]
 intro h
 exact absurd h hm0
theorem dappend_zeros {t tx ty e:TypeId} {kk:IntKind} (he:elT P t=some e) (hx:P.underlying tx=some (.int kk)) (hz:zeroT P e=true) (hz2:zeroOk P e=true) {n c m:Nat} {k off:Nat} {olds:List D} {ik:IntKind} {K:D→St→Prop} (ho:SrcOk S (szOf P e) (.win k off n c) n olds)
  (hgrow:c<n+m) (hnc:n≤c) (hb:n+m≤140737488355328) (hby:(n+m) * bytesOf P e≤140737488355328)
  (h:∀ (c':Nat) (zs:List D),n+m≤c'→(olds++zs).length=c' * szOf P e→K (.win S.next 0 (n+m) c') (S.add (.box e (olds++zs)))):dappW P t tx ty (.win k off n c) (.v (.int ik m)) S K:=by
 intro base η w vs hM hr
 simp only [RepL] at hr
 obtain ⟨x1,_,rfl,r1,x2,_,rfl,r2,rfl⟩:=hr
 simp only [Rep] at r2
 subst r2
 obtain ⟨os,o1,o2⟩:=srcOk_at hM ho r1
 obtain ⟨i,z,hi,hzr,hzs,hpos,hsz,hbz⟩:=zeroT_spec hz
 obtain ⟨z2,i2,hi2,hz2r,_,hz1,_⟩:=zeroOk_spec hz2
 rw [hi] at hi2
 injection hi2 with hi2
 subst hi2
 rw [hzr] at hz2r
 injection hz2r with hz2r
 subst hz2r
 have hu:=elT_spec he
 obtain ⟨A,e1,_⟩:=r1.win_slice
 subst e1
 have hso:=o1.src (tx:=t) (by rw [he];rfl)
 rw [hsz] at hso
 have hcold:=hso.cellsD
 have hmb:m * i.bytes≤281474976710656:=by
  have:m * i.bytes≤(n+m) * i.bytes:=Nat.mul_le_mul_right _ (Nat.le_add_left _ _)
  rw [hbz] at hby
  omega
 have hrun:=run_append_zeros (P:=P) w t tx ty e i z kk hu hi hzr hx A n c os hcold m ik hgrow (by omega) (growslice_fits hgrow (by rw [← hbz];exact hby)) hmb (by
  have:1 * 1≤m * i.size:=Nat.mul_le_mul (by omega) (by omega)
  omega)
 have G1:=goes_drew hM
 have hge:=grownCap_ge w (n+m) c e
 have G3:=G1.trans (goes_name G1.mem (.box e (olds++((Builtin.zeroCells z.cells m).toList++(Builtin.zeroCells z.cells (grownCap w (n+m) c e - (n+m))).toList).map ofV)) (os.toArray++Builtin.zeroCells z.cells m++Builtin.zeroCells z.cells (grownCap w (n+m) c e - (n+m))) e
  (.inl ⟨_,os++((Builtin.zeroCells z.cells m).toList++(Builtin.zeroCells z.cells (grownCap w (n+m) c e - (n+m))).toList),rfl,by apply Array.ext';simp,RepL.append (G1.repL o2) (zeroD_rep _),fun u hu'=>(List.mem_append.1 hu').elim (o1.one u) fun hh=>(List.mem_append.1 hh).elim (fun hh=>hz1 u (zeroCells_mem hh)) fun hh=>hz1 u (zeroCells_mem hh)⟩))
 refine ⟨_,_,_,_,_,hrun,h _ _ hge ?_,?_,G3⟩
 ·have e1:=size_zeroCells z.cells (grownCap w (n+m) c e - (n+m))
  have e2:=size_zeroCells z.cells m
  rw [← Array.length_toList] at e1 e2
  rw [List.length_append,List.length_map,List.length_append,ho.length,e1,e2,hzs,hsz,← Nat.add_mul,← Nat.add_mul]
  congr 1
  omega
 ·simp only [Rep]
  exact .inl ⟨w.heap.size,by simp only [Names.add,↓reduceIte];rfl,rfl,hge,hb⟩
theorem dappend_zeros0 {t tx ty e:TypeId} {kk:IntKind} (he:elT P t=some e) (hx:P.underlying tx=some (.int kk)) (hz:zeroT P e=true) (hz2:zeroOk P e=true) {m:Nat} {ik:IntKind} {K:D→St→Prop}
  (hm:0<m) (hb:0+m≤140737488355328) (hby:(0+m) * bytesOf P e≤140737488355328)
  (h:∀ (c':Nat) (zs:List D),0+m≤c'→zs.length=c' * szOf P e→K (.win S.next 0 (0+m) c') (S.add (.box e zs))):dapp P S t tx ty (.sl .full []) (.v (.int ik m)) K:=by
 refine dapp_srcV ?_
 have h:∀ (c':Nat) (zs:List D),0+m≤c'→([]++zs).length=c' * szOf P e→K (.win S.next 0 (0+m) c') (S.add (.box e ([]++zs))):=fun c' zs h1 h2=>h c' zs h1 h2
 have ho:SrcOk S (szOf P e) (.sl .full []) 0 []:=⟨fun x hx=>(by cases hx),rfl,rfl⟩
 intro base η w vs hM hr
 simp only [RepL] at hr
 obtain ⟨x1,_,rfl,r1,x2,_,rfl,r2,rfl⟩:=hr
 simp only [Rep] at r2
 subst r2
 obtain ⟨os,o1,o2⟩:=srcOk_at hM ho r1
 obtain ⟨i,z,hi,hzr,hzs,hpos,hsz,hbz⟩:=zeroT_spec hz
 obtain ⟨z2,i2,hi2,hz2r,_,hz1,_⟩:=zeroOk_spec hz2
 rw [hi] at hi2
 injection hi2 with hi2
 subst hi2
 rw [hzr] at hz2r
 injection hz2r with hz2r
 subst hz2r
 have hu:=elT_spec he
 have r1':=r1
 simp only [Rep,OwnAt,List.length_nil] at r1'
 obtain ⟨A,c,e1,_,_,hc0,_⟩:=r1'
 subst hc0
 subst e1
 have hgrow:0<0+m:=by omega
 have hso:=o1.src (tx:=t) (by rw [he];rfl)
 rw [hsz] at hso
 have hcold:=hso.cellsD
 have hmb:m * i.bytes≤281474976710656:=by
  have:m * i.bytes≤(0+m) * i.bytes:=Nat.mul_le_mul_right _ (Nat.le_add_left _ _)
  rw [hbz] at hby
  omega
 have hrun:=run_append_zeros (P:=P) w t tx ty e i z kk hu hi hzr hx A 0 0 os hcold m ik hgrow (by omega) (growslice_fits hgrow (by rw [← hbz];exact hby)) hmb (by
  have:1 * 1≤m * i.size:=Nat.mul_le_mul (by omega) (by omega)
  omega)
 have G1:=goes_drew hM
 have hge:=grownCap_ge w (0+m) 0 e
 have G3:=G1.trans (goes_name G1.mem (.box e ([]++((Builtin.zeroCells z.cells m).toList++(Builtin.zeroCells z.cells (grownCap w (0+m) 0 e - (0+m))).toList).map ofV)) (os.toArray++Builtin.zeroCells z.cells m++Builtin.zeroCells z.cells (grownCap w (0+m) 0 e - (0+m))) e
  (.inl ⟨_,os++((Builtin.zeroCells z.cells m).toList++(Builtin.zeroCells z.cells (grownCap w (0+m) 0 e - (0+m))).toList),rfl,by apply Array.ext';simp,RepL.append (G1.repL o2) (zeroD_rep _),fun u hu'=>(List.mem_append.1 hu').elim (o1.one u) fun hh=>(List.mem_append.1 hh).elim (fun hh=>hz1 u (zeroCells_mem hh)) fun hh=>hz1 u (zeroCells_mem hh)⟩))
 refine ⟨_,_,_,_,_,hrun,h _ _ hge ?_,?_,G3⟩
 ·have e1:=size_zeroCells z.cells (grownCap w (0+m) 0 e - (0+m))
  have e2:=size_zeroCells z.cells m
  rw [← Array.length_toList] at e1 e2
  rw [List.length_append,List.length_map,List.length_append,ho.length,e1,e2,hzs,hsz,← Nat.add_mul,← Nat.add_mul]
  congr 1
  omega
 ·simp only [Rep]
  exact .inl ⟨w.heap.size,by simp only [Names.add,↓reduceIte];rfl,rfl,hge,hb⟩
theorem dclear_win {t ty e:TypeId} (he:elT P t=some e) (hz:zeroT P e=true) (hz2:zeroOk P e=true) {k off n c:Nat} {bt:TypeId} {cs:List D} {K:D→St→Prop} (hk:S.ob k=some (.box bt cs)) (hfit:off+n * szOf P e≤cs.length)
  (h:∀ zs:List D,zs.length=n * szOf P e→K (.tup []) (S.set k (.box bt (splice cs off zs)))):dclear P #[t] ty (.win k off n c) S K:=by
 intro base η w vs hM hr
 simp only [RepL] at hr
 obtain ⟨x1,_,rfl,r1,rfl⟩:=hr
 obtain ⟨b,bs,rfl,hb,g1,g2,g3,g4,g5⟩:=win_live hM hk r1
 obtain ⟨i,z,hi,hzr,hzs,hpos,hsz,hbz⟩:=zeroT_spec hz
 obtain ⟨z2,i2,hi2,hz2r,_,hz1,_⟩:=zeroOk_spec hz2
 rw [hi] at hi2
 injection hi2 with hi2
 subst hi2
 rw [hzr] at hz2r
 injection hz2r with hz2r
 subst hz2r
 have hu:=elT_spec he
 have hl:=g2.length
 have e1:=size_zeroCells z.cells n
 rw [← Array.length_toList,hzs,← hsz] at e1
 have h1:∀ u∈(Builtin.zeroCells z.cells n).toList,u.oneCell'=true:=fun u hu=>hz1 u (zeroCells_mem hu)
 have hst:=run_storeCells_at P b off bt (Builtin.zeroCells z.cells n).toList 0 bs.toArray w g1 (by rw [Nat.add_zero,e1,List.size_toArray,hl];exact hfit) h1
 simp only [Nat.add_zero] at hst
 have hml:((Builtin.zeroCells z.cells n).toList.map ofV).length=n * szOf P e:=by rw [List.length_map,e1]
 have G:=goes_set hM hk hb (splice_len (off:=off) (ds:=(Builtin.zeroCells z.cells n).toList.map ofV) (by rw [hml];exact hfit)) (splice_rep g2 (zeroD_rep _)) (one_splice g3 h1)
 refine ⟨_,_,η,.tuple #[],_,?_,h _ hml,by simp only [Rep,RepL];exact ⟨[],rfl,rfl⟩,G⟩
 cases n with
 | zero =>
  have:Builtin.zeroCells z.cells 0=#[]:=by simp [Builtin.zeroCells]
  simp only [this,List.append_nil,List.length_nil,Nat.add_zero,List.take_append_drop]
  have e0:w.setRow b bs.toArray=w:=setRow_self w b bs.toArray bt (0,0) g1
  simp [Builtin.clear_,run_underlying hu,e0]
 | succ n=>simp [Builtin.clear_,run_underlying hu,zeroValue,typeInfo,hi,hzr,hst]
theorem dmake_win {t e:TypeId} (he:elT P t=some e) (hz:zeroT P e=true) (hz2:zeroOk P e=true) {n:Nat} {ik ik':IntKind} {K:D→St→Prop} (hb:n≤140737488355328) (hby:n * bytesOf P e≤140737488355328)
  (h:K (.win S.next 0 n n) (S.add (.box e (List.replicate n (zeroD P e)).flatten))):dmakeS P t (.v (.int ik n)) (.v (.int ik' n)) S K:=by
 intro base η w vs hM hr
 simp only [RepL,Rep] at hr
 obtain ⟨x1,_,rfl,rfl,x2,_,rfl,rfl,rfl⟩:=hr
 obtain ⟨i,z,hi,hzr,hzs,hpos,hsz,hbz⟩:=zeroT_spec hz
 obtain ⟨z2,i2,hi2,hz2r,hzd,hz1,hzl⟩:=zeroOk_spec hz2
 rw [hi] at hi2
 injection hi2 with hi2
 subst hi2
 rw [hzr] at hz2r
 injection hz2r with hz2r
 subst hz2r
 have hu:=elT_spec he
 have hw:IntKind.i64.wrap (n:Int)=n:=(by rw [IntKind.wrap_i64];omega)
 rw [hbz] at hby
 have h1:¬ (281474976710656<(i.bytes:Int) * (n:Int)):=by
  have:(i.bytes:Int) * (n:Int)=((n * i.bytes:Nat):Int):=by rw [Nat.mul_comm];simp
  omega
 have hrow:∀ n:Nat,((Array.range (n * i.size)).map fun j=>(if n * i.size=0 then #[] else z.cells)[j % (if n * i.size=0 then #[] else z.cells).size]!)=((List.replicate n z.cells.toList).flatten).toArray:=fun n=>by
  apply Array.ext'
  rw [Array.toList_map]
  apply List.ext_getElem?
  intro j
  rw [List.getElem?_map]
  by_cases hj:j<n * i.size
  ·have h0:n * i.size ≠ 0:=by omega
   rw [if_neg h0,hzs]
   have e1:(Array.range (n * i.size)).toList[j]? = some j:=by rw [Array.getElem?_toList];simp [hj]
   rw [e1]
   have hlt:j % i.size<z.cells.size:=by rw [hzs];exact Nat.mod_lt _ hpos
   have:((List.replicate n z.cells.toList).flatten)[j]? = z.cells.toList[j % i.size]? := by
    clear e1 h0 h1 hw
    induction n generalizing j with
    | zero=>omega
    | succ n ih =>
     rw [List.replicate_succ,List.flatten_cons]
     have hlz:z.cells.toList.length=i.size:=by rw [Array.length_toList,hzs]
     by_cases hj2:j<i.size
     ·rw [List.getElem?_append_left (by omega),Nat.mod_eq_of_lt hj2]
     ·rw [List.getElem?_append_right (by omega),hlz,ih (j - i.size) (by rw [Nat.add_mul] at hj;omega) (by rw [← Nat.mod_eq_sub_mod (by omega)];exact hlt),← Nat.mod_eq_sub_mod (by omega)]
   show some _=_
   simp only [this]
   rw [Array.getElem?_toList,Array.getElem?_eq_getElem hlt]
   simp [hlt]
  ·have e1:(Array.range (n * i.size)).toList[j]? = none:=by rw [Array.getElem?_toList];simp;omega
   rw [e1]
   have:((List.replicate n z.cells.toList).flatten).length=n * i.size:=by rw [List.length_flatten];simp [hzs]
   rw [Option.map_none,List.getElem?_eq_none (by show _≤_;simp only [];omega)]
 have G:=goes_name hM (.box e (List.replicate n (zeroD P e)).flatten) ((List.replicate n z.cells.toList).flatten).toArray e
  (.inl ⟨_,(List.replicate n z.cells.toList).flatten,rfl,rfl,by
   rw [hzd]
   clear h h1 hw hby hb
   induction n with
   | zero=>simp [RepL]
   | succ n ih =>
    rw [List.replicate_succ,List.replicate_succ,List.flatten_cons,List.flatten_cons]
    exact RepL.append (zeroD_rep _) ih,fun u hu=>by
   obtain ⟨l,hl,hu⟩:=List.mem_flatten.1 hu
   rw [List.eq_of_mem_replicate hl] at hu
   exact hz1 u hu⟩)
 refine ⟨_,_,_,.slice (some ⟨w.heap.size,0,none⟩) n n,_,?_,h,by simp only [Rep];exact .inl ⟨w.heap.size,by simp only [Names.add,↓reduceIte],rfl,Nat.le_refl _,hb⟩,G⟩
 have h0:¬ ((n:Int)<0):=by omega
 rw [← hrow n]
 by_cases hn:n=0
 ·subst hn
  have w0:IntKind.i64.wrap 0=0:=rfl
  simp [Instr.makeSlice,run_underlying hu,asInt,asIntOf,typeInfo,hi,w0,sizeOf,zeroValue,hzr,newRow]
 ·have hn':n * i.size ≠ 0:=by
   have:1 * 1≤n * i.size:=Nat.mul_le_mul (by omega) (by omega)
   omega
  have hn2:¬ (n=0∨i.size=0):=by omega
  simp [Instr.makeSlice,run_underlying hu,asInt,asIntOf,typeInfo,hi,hw,h1,h0,sizeOf,zeroValue,hzr,newRow,hn',hn2]
theorem doverlaps {g:FuncId} {fn:Func} {t e:TypeId} {tr:TypeId} (hf:P.funcs[g]? = some fn) (hname:(fn.name == "runtime.NumGoroutine")=false) (hb:fn.body.isNone=true) (hn:Extern.findNext fn=none) (hx:Extern.find fn=some (Extern.SlicesOverlaps.overlaps #[t,t] #[tr]))
  (he:elT P t=some e) (hi:(P.info? e).isSome=true) {o:Own} {es:List D} {k off n c:Nat} {bt:TypeId} {cs:List D} (hk:S.ob k=some (.box bt cs)) (hcs:cs ≠ []) {K:D→St→Prop} (h:K (.v (.bool false)) S):DCalls P g [.sl o es,.win k off n c] S K:=by
 intro base η w vs hM hr
 simp only [RepL] at hr
 obtain ⟨x1,_,rfl,r1,x2,_,rfl,r2,rfl⟩:=hr
 obtain ⟨b,bs,rfl,hbb,g1,g2,g3,g4,g5⟩:=win_live hM hk r2
 obtain ⟨i,hi⟩:=Option.isSome_iff_exists.1 hi
 have hu:=elT_spec he
 refine .inr ⟨.v (.bool false),S,η,.bool false,w,?_,h,by simp only [Rep],Goes.refl hM⟩
 rw [run_callFunc_extern hf hname hb hn hx]
 simp only [Rep] at r1
 obtain ⟨A,cap,rfl,h2,h3,h4,h5⟩:=r1
 have hshb:w.shape? b=some (bt,bs.length):=by simp [World.shape?,g1]
 have hbl:bs.length ≠ 0:=by rw [g2.length];exact fun h=>hcs (List.eq_nil_of_length_eq_zero h)
 have hfb:∀ x,w.frozen? ⟨b,x,none⟩=false:=fun x=>by simp [World.frozen?,g1]
 have key:((Extern.SlicesOverlaps.overlaps #[t,t] #[tr] #[.slice A es.length cap,.slice (some ⟨b,off,none⟩) n c]).run P w)=.ok (.bool false) w:=by
  change Sem.run P (α:=Value) (do
   let some t:=(#[t,t]:Array TypeId)[0]? | stuck "slices.overlaps: no parameter types"
   let .slice elem ← underlying t | stuck "slices.overlaps: slice type expected"
   let size ← sizeOf elem
   match A,(some ⟨b,off,none⟩:Option Addr) with
   | some a,some b =>
    if es.length=0∨n=0∨size=0 then pure (Value.bool false)
    else if a.block != b.block && (← frozen a) && (← frozen b) then unsupported .addressObserved
    else do
     if a.block != b.block then do
      noView a;noView b
      if ← mayBeOne a b then return Value.bool ((← choose (.extern "sameAddr.stringBytes" 2)) == 1)
     pure (Value.bool (a.block == b.block && a.off<b.off+n * size && b.off<a.off+es.length * size))
   | _,_=>pure (Value.bool false)) w=_
  rcases Nat.eq_zero_or_pos es.length with h0 | h0
  ·cases A with
   | none=>simp [run_underlying hu,sizeOf,typeInfo,hi]
   | some a=>simp [run_underlying hu,sizeOf,typeInfo,hi,h0]
  ·obtain ⟨b',o',z,rfl,hz,hE⟩:=h5 h0
   obtain ⟨d,hd⟩:∃ d,es[0]? = some d:=⟨_,List.getElem?_eq_getElem h0⟩
   have hel:=(RepE.get 0 hE hd).cells
   simp only [Nat.zero_mul,Nat.add_zero] at hel
   have hcell:Fix P S η b' o'∧∃ x,w.cell? ⟨b',o',none⟩=some x:=by
    cases hdc:d.cells with
    | nil=>exfalso;have:=hel.1;rw [D.width,hdc] at this;simp at this;omega
    | cons y l =>
     have:=hel.2
     rw [hdc] at this
     simp only [RepC] at this
     exact ⟨this.1.1,_,this.1.2.choose_spec.1⟩
   obtain ⟨hfix,x,hx⟩:=hcell
   have hne:b' ≠ b:=fun e=>by subst e;exact hfix k _ hbb hk
   have hsh:∃ te kA,w.shape? b'=some (te,kA+1):=by
    unfold World.cell? at hx
    unfold World.shape?
    simp only at hx ⊢
    split at hx
    ·rename_i cc tt ff hh
     have:o'<cc.size:=by
      simp only [Option.isSome_none,Bool.false_eq_true,if_false] at hx
      exact (Array.getElem?_eq_some_iff.1 hx).1
     exact ⟨tt,cc.size - 1,by congr 2;omega⟩
    ·cases hx
   obtain ⟨te,kA,hsh⟩:=hsh
   have hnb:(b' != b)=true:=by simpa using hne
   have hnb':(b' == b)=false:=by simpa using hne
   by_cases h0':n=0∨i.size=0
   ·have:es.length=0∨n=0∨i.size=0:=.inr h0'
    simp [run_underlying hu,sizeOf,typeInfo,hi]
    intro _ a1 a2
    exact absurd h0' (by simp [a1,a2])
   ·have h00:¬ (es.length=0∨n=0∨i.size=0):=by omega
    cases hz1:w.frozen? ⟨b',o',none⟩ <;> cases hz2:w.frozen? ⟨b',kA+1,none⟩ <;>
     simp [run_underlying hu,sizeOf,typeInfo,hi,hnb,hnb',frozen,noView,viewAt,mayBeOne,stringish,shape,Sem.run,hsh,hshb,hfb,hz1,hz2,hbl]
 show ((Extern.SlicesOverlaps.overlaps #[t,t] #[tr] #[.slice A es.length cap,.slice (some ⟨b,off,none⟩) n c]).run P w).andThen _=_
 rw [key]
 rfl
theorem splice_at {B C X:List D} {o:Nat} (ho:o=B.length):splice (B++C) o X=B++X++C.drop X.length:=by
 subst ho
 unfold splice
 rw [List.take_append_of_le_length (Nat.le_refl _),List.take_of_length_le (Nat.le_refl _),List.drop_append,List.drop_of_length_le (by omega),List.nil_append]
 congr 2
 omega
theorem ins_old {B C X zs:List D} {o o':Nat} (ho:o=B.length) (ho':o'=B.length+X.length) (hl:X.length≤zs.length):splice (splice (B++C++zs) o' C) o X=B++X++C++zs.drop X.length:=by
 have e:B++C++zs=(B++C++zs).take (B.length+X.length)++(B++C++zs).drop (B.length+X.length):=(List.take_append_drop _ _).symm
 have hl1:((B++C++zs).take (B.length+X.length)).length=B.length+X.length:=by rw [List.length_take];simp;omega
 have h1:splice (B++C++zs) o' C=(B++C++zs).take (B.length+X.length)++C++zs.drop X.length:=by
  rw [e,splice_at (ho'.trans hl1.symm),← e,List.drop_drop,List.drop_append (l₁:=B++C),List.drop_of_length_le (by simp only [List.length_append];omega),List.nil_append]
  congr 2
  simp only [List.length_append]
  omega
 rw [h1]
 have e2:(B++C++zs).take (B.length+X.length)=B++(C++zs).take X.length:=by
  rw [List.append_assoc,List.take_append,List.take_of_length_le (by omega)]
  congr 2
  omega
 have hl2:((C++zs).take X.length).length=X.length:=by rw [List.length_take];simp;omega
 rw [e2,List.append_assoc,List.append_assoc,splice_at ho]
 rw [List.drop_append,List.drop_of_length_le (by omega),List.nil_append,hl2,Nat.sub_self,List.drop_zero]
 try simp
def OwnD (P:Program) (S:St) (e:TypeId) (es:List D) (d:D):Prop:=(es=[]∧d=.sl .full [])∨∃ k c zs,d=.win k 0 es.length c∧S.ob k=some (ownOb e es zs c)∧(flat es++zs).length=c * szOf P e∧k<S.next
def St.left (S:St):D→St
 | .win k _ _ _=>S.drop k
 | _=>S
theorem dapp_ownD {t tx ty e:TypeId} (he:elT P t=some e) (hx:(elT P tx).isSome=true) (hz:zeroT P e=true) (hz2:zeroOk P e=true) {d:D} {es es2:List D} {o2:Own} {K:D→St→Prop} (hd:OwnD P S e es d) (hw1:∀ d∈es,d.width=szOf P e) (hw2:∀ d∈es2,d.width=szOf P e)
  (hb:es.length+es2.length≤140737488355328) (hby:(es.length+es2.length) * bytesOf P e≤140737488355328)
  (h:∀ (c':Nat) (zs':List D),(flat (es++es2)++zs').length=c' * szOf P e→K (.win S.next 0 (es.length+es2.length) c') ((S.left d).add (ownOb e (es++es2) zs' c'))):dapp P S t tx ty d (.sl o2 es2) K:=by
 rcases hd with ⟨rfl,rfl⟩ | ⟨k,c,zs,rfl,hk,hl,hkn⟩
 ·refine dapp_nil he (dappend_fresh he hx hz hz2 (srcOk_sl hw2) rfl (by simpa using hb) (by simpa using hby) fun c' zs' _ h2=>?_)
  have:=h c' zs' (by simpa using h2)
  simpa [St.left] using this
 ·rw [dapp_atw]
  exact dappend_own he hx hz hz2 hk hl hw1 (srcOk_sl hw2) rfl hb hby hkn fun c' zs' _ h2=>h c' zs' h2
theorem OwnD.mono {T T':St} {e:TypeId} {es:List D} {d:D} (hd:OwnD P T e es d) (hs:T.Sub T'):OwnD P T' e es d:=by
 rcases hd with h | ⟨k,c,zs,h1,h2,h3,h4⟩
 ·exact .inl h
 ·exact .inr ⟨k,c,zs,h1,hs.ob _ _ h2,h3,Nat.lt_of_lt_of_le h4 hs.next⟩
theorem OwnD.sub {S0 T:St} (hS:S0.WF) (hs:S0.Sub T) {e:TypeId} {es:List D} {d:D} (hd:OwnD P T e es d) (hlo:∀ k o n c,d=.win k o n c→S0.next≤k):S0.Sub (T.left d):=by
 rcases hd with ⟨_,rfl⟩ | ⟨k,c,zs,rfl,_⟩
 ·exact hs
 ·exact ⟨hs.next,fun j o hj=>by
   have h1:=hS.lt hj
   have h2:=hlo _ _ _ _ rfl
   show (if j=k then none else T.ob j)=some o
   rw [if_neg (by omega)]
   exact hs.ob j o hj⟩
theorem left_next (T:St) (d:D):(T.left d).next=T.next:=by cases d <;> rfl
end
abbrev H32:={l:List UInt8 // l.length=32}
def encH (h:H32):D:=.agg (h.1.map bD)
abbrev DMk:=Int × H32
theorem cells_encH (h:H32):(encH h).cells=h.1.map bD:=rfl
theorem len_encH (h:H32):(h.1.map bD).length=32:=by simp [h.2]
theorem width_encH (h:H32):(encH h).width=32:=len_encH h
theorem okCell_encH (h:H32):(encH h).okCell=true:=rfl
theorem take_hash (h:H32):(h.1.map bD).take 32=h.1.map bD:=List.take_of_length_le (by rw [len_encH];omega)
theorem agg_hash (h:H32):D.agg (h.1.map bD)=encH h:=rfl
def bV (b:UInt8):Value:=.int .u8 b.toNat
theorem vals_bytes:∀ l:List UInt8,vals (l.map bD)=some (l.map bV)
 | []=>rfl
 | b::l=>by simp [vals,bD,bV,vals_bytes l]
theorem valsEq_bytes:∀ a b:List UInt8,valsEq (a.map bV) (b.map bV)=decide (a=b)
 | [],[]=>by simp [valsEq]
 | [],_::_=>by simp [valsEq]
 | _::_,[]=>by simp [valsEq]
 | x::a,y::b=>by
  have ih:=valsEq_bytes a b
  simp only [List.map_cons,valsEq,ih,bV,cellEq]
  rw [Bool.eq_iff_iff]
  simp [← UInt8.toNat_inj]
  omega
theorem valsEq_hash (a b:H32):valsEq (a.1.map bV) (b.1.map bV)=decide (a=b):=by
 rw [valsEq_bytes];congr 1;rw [Subtype.ext_iff]
theorem bV_cell:bV=Go.Extern.Stop.cell:=rfl
theorem equalIn_hash (d:Nat) (a b:H32) (w:World):(Op.equalIn (d+2) 39 (.agg (a.1.map bV).toArray) (.agg (b.1.map bV).toArray)).run Tryz.prog w=.ok (decide (a=b)) w:=by
 rw [bV_cell,run_equalIn_bytes (P:=Tryz.prog) w d 39 5 32 Tryz.underlying39 Tryz.underlying5 (fun w=>by kernel_rfl) a.1 b.1 a.2 b.2]
 congr 1
 rw [Bool.eq_iff_iff]
 simp [Subtype.ext_iff]
theorem eqOk_hash {x y:Operand} (a b:H32):EqOk Tryz.prog .eql 39 x y (a.1.map bV) (b.1.map bV) (decide (a=b))∧EqOk Tryz.prog .neq 39 x y (a.1.map bV) (b.1.map bV) (!decide (a=b)):=by
 constructor <;> intro w
 ·rw [Sem.run_bind,run_eqGuard_agg w _ _ _ _ _ _ (by kernel_rfl),Result.andThen_ok,run_eql_struct,equalIn_hash 9998 a b w,Result.andThen_ok]
 ·rw [Sem.run_bind,run_eqGuard_agg w _ _ _ _ _ _ (by kernel_rfl),Result.andThen_ok,run_neq_struct,equalIn_hash 9998 a b w,Result.andThen_ok]
section
variable {x y : Operand} {K : D → Prop} {K' : D → St → Prop} {S : St}
theorem bin_eqH (a b:H32):dbin Tryz.prog .eql 39 x y (encH a) (encH b)=some (EqOk Tryz.prog .eql 39 x y (a.1.map bV) (b.1.map bV) (decide (a=b)),.v (.bool (decide (a=b)))):=by
 simp only [dbin,encH,vals_bytes,dbinA,valsEq_hash]
theorem bin_neH (a b:H32):dbin Tryz.prog .neq 39 x y (encH a) (encH b)=some (EqOk Tryz.prog .neq 39 x y (a.1.map bV) (b.1.map bV) (!decide (a=b)),.v (.bool (!decide (a=b)))):=by
 simp only [dbin,encH,vals_bytes,dbinA,valsEq_hash]
theorem onVal_eqH (a b:H32):onVal (dbin Tryz.prog .eql 39 x y (encH a) (encH b)) K=K (.v (.bool (decide (a=b)))):=by
 rw [bin_eqH,onVal_some];exact propext ⟨fun h=>h.2,fun h=>⟨(eqOk_hash a b).1,h⟩⟩
theorem onVal_neH (a b:H32):onVal (dbin Tryz.prog .neq 39 x y (encH a) (encH b)) K=K (.v (.bool (!decide (a=b)))):=by
 rw [bin_neH,onVal_some];exact propext ⟨fun h=>h.2,fun h=>⟨(eqOk_hash a b).2,h⟩⟩
end
attribute [go_sem] onVal_eqH onVal_neH cells_encH take_hash agg_hash len_encH width_encH okCell_encH
theorem dat_of_dwpL {P:Program} (hm:P.follows .mixedOrders=true) {g:FuncId} {fn:Func} {c:Code} (hf:P.funcs[g]? = some fn) (hb:fn.body=some c) (hent:∀ vs w,(callFunc g vs).run P w=.ok (.enter g vs) w) {rs:List ResultVar} (hrs:fn.results.toList=rs) {args:List D} (hok:(codeOk fn.ntmps c && fn.results.all (resOk fn.ntmps) && Nat.ble args.length fn.ntmps)=true) {d:D} (hc:d.closed) {S:St}
  (h:S.WF→dwp P c (DQ.pfin P rs S d) (argF args) S):DAt P g args S d :=
 dcalls_of_dwp hm hf hb hent hrs hok fun hw=>dwp_mono c (pfin_fin hw hc) (h hw)
theorem go_at {P:Program} {g:FuncId} {args:List D} {S:St} {d:D} {K:D→St→Prop} (h:DAt P g args S d) (k:K d S):DCalls P g args S K:=h.mono fun _ _ hq=>by rw [hq.1,hq.2];exact k
section
set_option maxRecDepth 200000
end
def valB:List UInt8→Nat
 | []=>0
 | x::l=>x.toNat * 256 ^ l.length+valB l
def valH (h:H32):Nat:=valB h.1
def key (m:DMk):Int:=m.1 * (256 ^ 32:Nat)+(valH m.2:Nat)
def ltM (a b:DMk):Bool:=decide (key a<key b)
def ahead (l:List DMk) (m:DMk):Nat:=l.findIdx fun x => !ltM x m
def pack1 (acc:List DMk) (x:DMk):List DMk:=if acc.getLast? = some x then acc else acc++[x]
def packM (l:List DMk):List DMk:=l.foldl pack1 []
end Go.Proofs.YtogbklnkpjjkoaaGreatDoor
namespace Go.Proofs.YtogbklnkpjjkoaaGreatDoor
open Go.RowKit Go.Sort Go.Shelf
section
variable {P : Program} {base : Nat} {S : St} {η : Names} {w : World}
theorem goes_ahead (h:Mem P base S η w):∀ n,Goes P base S η w S η (Sort.ahead w n)
 | 0=>Goes.refl h
 | n+1=>by
  have:=goes_ahead h n
  rw [← ahead_drew]
  exact this.trans (goes_drew this.mem)
theorem goes_grow (h:Mem P base S η w):∀ os:List Obj,Goes P base S η w S η (grow w os.toArray):=by
 intro os
 induction os generalizing w with
 | nil=>simpa using Goes.refl h
 | cons o os ih =>
  have h1:=goes_new h o
  have:=h1.trans (ih h1.mem)
  rw [alloc_eq_grow,grow_grow] at this
  simpa using this
theorem mapBlock_setRow {w:World} {b:Nat} {vs:List Value} {t:TypeId} {fr:Nat × Nat} (hb:w.heap[b]? = some (.cells vs.toArray t fr)) (f:Array Value→Array Value):mapBlock w b f=w.setRow b (f vs.toArray):=by
 unfold mapBlock World.setRow
 congr 1
 apply Array.ext_getElem?
 intro k
 simp only [Array.getElem?_modify]
 by_cases hk:b=k
 ·subst hk
  simp only [if_true,hb,Option.map_some,onCells]
 ·simp [hk]
theorem putCells_list {off:Nat} {F vs:List Value} (h:off+F.length≤vs.length):putCells id off F.toArray vs.toArray=(vs.take off++F++vs.drop (off+F.length)).toArray:=by
 apply Array.ext_getElem?
 intro k
 simp only [putCells,Array.getElem?_mapIdx,List.getElem?_toArray,List.size_toArray,id_eq]
 by_cases h1:k<off
 ·rw [List.append_assoc,List.getElem?_append_left (by simp;omega),List.getElem?_take_of_lt h1]
  cases vs[k]? with
  | none=>rfl
  | some y=>rw [Option.map_some,if_neg (by omega)]
 ·by_cases h2:k<off+F.length
  ·rw [List.getElem?_append_left (by simp;omega),List.getElem?_append_right (by simp;omega),List.length_take,Nat.min_eq_left (by omega),List.getElem?_eq_getElem (by omega:k - off<F.length),List.getElem?_eq_getElem (by omega:k<vs.length),Option.map_some,if_pos (by omega)]
   have h3:k - off<F.toArray.size:=by simp;omega
   rw [getElem!_pos F.toArray (k - off) h3]
   simp
  ·rw [List.getElem?_append_right (by simp;omega),List.getElem?_drop]
   simp only [List.length_append,List.length_take]
   rw [show off+F.length+(k - (min off vs.length+F.length))=k by omega]
   cases vs[k]? with
   | none=>rfl
   | some y=>rw [Option.map_some,if_neg (by omega)]
variable {α : Type} [Inhabited α]
theorem repL_vs {X:Nat→Nat→Prop}:∀ {us vs:List Value},RepL P w η X (us.map D.v) vs→vs=us
 | [],vs,h=>by simpa only [List.map_nil,RepL] using h
 | u::us,vs,h=>by
  simp only [List.map_cons,RepL,Rep] at h
  obtain ⟨x,xs,rfl,rfl,h3⟩:=h
  rw [repL_vs h3]
theorem repL_plain {X:Nat→Nat→Prop}:∀ us:List Value,RepL P w η X (us.map D.v) us
 | []=>by simp only [List.map_nil,RepL]
 | u::us=>by simp only [List.map_cons,RepL,Rep];exact ⟨u,us,rfl,rfl,repL_plain us⟩
theorem repL_split {X:Nat→Nat→Prop}:∀ {l m:List D} {vs:List Value},RepL P w η X (l++m) vs→RepL P w η X l (vs.take l.length)∧RepL P w η X m (vs.drop l.length)
 | [],m,vs,h=>by simpa only [List.nil_append,List.length_nil,List.take_zero,List.drop_zero,RepL,true_and] using h
 | d::l,m,vs,h=>by
  simp only [List.cons_append,RepL] at h
  obtain ⟨x,xs,rfl,h2,h3⟩:=h
  have:=repL_split h3
  simp only [List.length_cons,List.take_succ_cons,List.drop_succ_cons,RepL]
  exact ⟨⟨x,_,rfl,h2,this.1⟩,this.2⟩
end
end Go.Proofs.YtogbklnkpjjkoaaGreatDoor
namespace Go.Proofs.YtogbklnkpjjkoaaGreatDoor
open Go.ChangeShapes Go.WideShapes Go.ChangeAt Go.RowKit Go.Deep Go.Joins
section
set_option maxRecDepth 20000
variable {H : Type} {enc : TypeId × Value → H} {w : World}
theorem hash_of {fuel:Nat} {cs:List Value} {x:DataW H × List MemPlace} (h:DataW.trod enc Tryz.prog w 0 (fun _=>true) true fuel 39 cs=some x):∃ m:H32,cs=m.1.map bV:=by
 obtain ⟨l,h1,h2⟩:=open_u8array Tryz.underlying39 Tryz.underlying5 (by kernel_rfl) (by kernel_rfl) h
 exact ⟨⟨l,h1⟩,h2⟩
theorem bV_one (h:H32):∀ v∈h.1.map bV,v.oneCell'=true:=fun v hv=>by
 obtain ⟨b,_,rfl⟩:=List.mem_map.1 hv
 rfl
theorem encH_vs (m:H32):encH m=.agg ((m.1.map bV).map D.v):=by
 simp only [encH,List.map_map]
 rfl
theorem rep_hash (m:H32) (η:Names) (X:Nat→Nat→Prop):Rep Tryz.prog w η X (encH m) (.agg (m.1.map bV).toArray):=by
 rw [encH_vs]
 simp only [Rep]
 exact ⟨_,rfl,repL_plain _,bV_one m⟩
theorem open_hash {v:Value} {d:DataW H} {p:List MemPlace} {W:World} {base:Nat} (h:DataW.Trod enc Tryz.prog w 0 (fun _=>true) true 39 v d p) (hk:Value.okWide Tryz.prog W .any base 39 v) :
  ∃ m:H32,∀ (η:Names) (X:Nat→Nat→Prop),Rep Tryz.prog w η X (encH m) v:=by
 have:∃ cs:Array Value,v=.agg cs:=by
  simp only [Value.okWide,Tryz.underlying39] at hk
  obtain ⟨cs,h1,_⟩:=hk
  exact ⟨cs,h1⟩
 obtain ⟨cs,rfl⟩:=this
 obtain ⟨fuel,h⟩:=h
 obtain ⟨m,hm⟩:=hash_of h
 refine ⟨m,fun η X=>?_⟩
 have h3:cs.toList=m.1.map bV:=by simpa [Value.cells] using hm
 have:=rep_hash (w:=w) m η X
 rw [← h3] at this
 simpa using this
end
end Go.Proofs.YtogbklnkpjjkoaaGreatDoor
namespace Go.Proofs.YtogbklnkpjjkoaaGreatDoor
open Go.RowKit
set_option maxHeartbeats 4000000 in
set_option maxRecDepth 20000 in
theorem ins_str {S:St} {k c i n:Nat} {es zs:List D} {x:D} {o:Own} {K:D→St→Prop} (hk:S.ob k=some (ownOb 9 es zs c)) (hl:(flat es++zs).length=c * 1) (hw:∀ d∈es,d.width=1) (hx:x.width=1) (hi:i≤es.length) (hn:es.length≤1073741824) (hkn:k<S.next) (hnn:n=es.length)
  (h:∀ (c':Nat) (zs':List D),es.length+1≤c'→(flat (es.take i++[x]++es.drop i)++zs').length=c' * 1→K (.win S.next 0 (n+1) c') ((S.drop k).add (ownOb 9 (es.take i++[x]++es.drop i) zs' c'))) :
  DCalls Tryz.prog 115 [.win k 0 n c,.v (.int .i64 i),.sl o [x]] S K:=by
 subst hnn
 have hc:=ownOb_len hw (by omega) hl
 have heT:elT Tryz.prog 22=some 9:=by kernel_rfl
 have heS:(elT Tryz.prog 22).isSome=true:=by rw [heT];rfl
 have hsz:szOf Tryz.prog 9=1:=by kernel_rfl
 have hby:bytesOf Tryz.prog 9=16:=by kernel_rfl
 have hzT:zeroT Tryz.prog 9=true:=by kernel_rfl
 have hzO:zeroOk Tryz.prog 9=true:=by kernel_rfl
 have hiS:=(zeroT_pos hzT).2
 refine DCalls.thaw ?_
 refine dcalls_inline mixed Tryz.func115 rfl (fun _ _=>by kernel_rfl) (rs:=[.tmp 6]) rfl (by kernel_rfl) (fun hS=>?_)
 have hwr:IntKind.i64.wrap ((es.length:Int)+((1:Nat):Int))=((es.length+1:Nat):Int):=by rw [IntKind.wrap_i64];omega
 have h10:(((1:Nat):Int) == 0)=false:=by decide
 by_cases hin:i=es.length
 ·subst hin
  have b1:((es.length:Int) == (es.length:Int))=true:=by simp
  (refine dd3 @hwr @h10 @b1 ?_)
  refine dappend_own heT heS hzT hzO hk (by rw [hsz];exact hl) (by rw [hsz];exact hw) (es2:=[x]) (srcOk_one (by rw [hsz];exact hx)) rfl (by simp;omega) (by rw [hby];simp;omega) hkn fun c' zs' h1 h2=>?_
  (refine dd0 ?_)
  refine ⟨_,_,Thaw.refl _ _ _,?_⟩
  have:=h c' zs' h1
  rw [List.take_of_length_le (Nat.le_refl _),List.drop_of_length_le (Nat.le_refl _),List.append_nil] at this
  exact this (by rw [hsz] at h2;exact h2)
 ·have b1:((i:Int) == (es.length:Int))=false:=by simp;omega
  have hcap:0<c:=by omega
  have hk0:=hk
  rw [ownOb_box hcap] at hk
  by_cases hgr:c<es.length+1
  ·have b2:decide ((c:Int)<((es.length+1:Nat):Int))=true:=by simp;omega
   have hwr2:IntKind.i64.wrap (((es.length+1:Nat):Int) - (i:Int))=((es.length+1 - i:Nat):Int):=by rw [IntKind.wrap_i64];omega
   have hwr3:IntKind.i64.wrap ((i:Int)+((1:Nat):Int))=((i+1:Nat):Int):=by rw [IntKind.wrap_i64];omega
   (refine dd5 @hwr @h10 @b1 @b2 @hwr2 ?_)
   have hso:=srcOk_own0 (c':=c) hk0 hc hw hi
   refine dappend_zeros heT (kk:=.i64) (by kernel_rfl) hzT hzO hso (by omega) (by omega) (by omega) (by rw [hby];omega) fun c' zs' h1 h2=>?_
   have hfx:(flat [x]).length=1:=by simpa [flat,D.width] using hx
   have hfB:(flat (es.take i)).length=i * 1:=by rw [dflat_length fun d hd=>hw d (List.mem_of_mem_take hd),List.length_take];congr 1;omega
   have hfC:(flat (es.drop i)).length=(es.length - i) * 1:=by rw [dflat_length fun d hd=>hw d (List.mem_of_mem_drop hd),List.length_drop]
   rw [hsz] at h2
   (refine dd1 @winOff_lt ?_)
   have hmin:Nat.min 1 (i+(es.length+1 - i) - i)=1:=by show min _ _=_;omega
   have hzl:1≤zs'.length:=by rw [List.length_append,hfB] at h2;omega
   refine dcopy_win heT hiS (m:=1) (cs:=flat (es.take i)++zs') (bt:=9) (news:=flat [x]) (by exact di0) (srcOk_one (by rw [hsz];exact hx)) (by rw [hsz,h2,hmin];omega) (cs':=flat (es.take i)++flat [x]++zs'.drop 1) (by rw [hsz,hmin,List.take_of_length_le (l:=flat [x]) (by omega),splice_at (by rw [hfB]),hfx]) ?_
   (refine dd2 @winOff_lt @hwr3 ?_)
   refine ddraw_mk 8 (by kernel_rfl) ?_
   (refine dd2 @winOff_lt @hwr3 ?_)
   have hmin2:Nat.min (es.length - i) (i+(es.length+1 - i) - (i+1))=es.length - i:=by show min _ _=_;omega
   have hso2:=srcOk_own (S:=(S.add (.box 9 (flat (es.take i)++zs'))).set S.next (.box 9 (flat (es.take i)++flat [x]++zs'.drop 1))) (l:=i) (n:=es.length - i) (c':=c - i) (k:=k) (c:=c) (e:=9) (es:=es) (zs:=zs) (z:=1) (by exact di1 @hk0) hc hw (by omega)
   rw [List.take_of_length_le (l:=es.drop i) (by rw [List.length_drop];omega)] at hso2
   refine dcopy_win heT hiS (m:=es.length - i) (cs:=flat (es.take i)++flat [x]++zs'.drop 1) (bt:=9) (news:=flat (es.drop i)) (by exact di0) (by rw [hsz];exact hso2) (by rw [hsz,hmin2];simp only [List.length_append,hfB,hfx,List.length_drop];rw [List.length_append,hfB] at h2;omega) (cs':=flat (es.take i++[x]++es.drop i)++(zs'.drop 1).drop ((es.length - i) * 1)) (by rw [hsz,hmin2,List.take_of_length_le (l:=flat (es.drop i)) (by omega),splice_at (by rw [List.length_append,hfB,hfx];omega),hfC,flat_append,flat_append]) ?_
   (refine dd0 ?_)
   refine ⟨_,_,thaw_drop k _,?_⟩
   rw [St.add_set,St.add_set,St.add_drop _ _ hkn]
   have e1:i+(es.length+1 - i)=es.length+1:=by omega
   rw [e1] at h1 ⊢
   have:=h c' (List.drop ((es.length - i) * 1) (List.drop 1 zs')) h1 (by
    simp only [List.length_append,flat_append,hfB,hfC,hfx,List.length_drop]
    rw [List.length_append,hfB] at h2
    omega)
   rw [ownOb_box (by omega)] at this
   exact this
  ·have b2:decide ((c:Int)<((es.length+1:Nat):Int))=false:=by simp;omega
   have hwr3:IntKind.i64.wrap ((i:Int)+((1:Nat):Int))=((i+1:Nat):Int):=by rw [IntKind.wrap_i64];omega
   (refine dd6 @hwr @hwr3 @h10 @b1 @b2 @winOff_lt ?_)
   refine doverlaps (tr:=4) Tryz.func146 (by kernel_rfl) (by kernel_rfl) (by kernel_rfl) (by kernel_rfl) heT hiS hk (fun e=>by rw [e] at hl;simp at hl;omega) ?_
   (refine dd1 @winOff_lt ?_)
   refine ddraw_mk 8 (by kernel_rfl) ?_
   (refine dd2 @winOff_lt @hwr3 ?_)
   have hfx:(flat [x]).length=1:=by simpa [flat,D.width] using hx
   have hfB:(flat (es.take i)).length=i * 1:=by rw [dflat_length fun d hd=>hw d (List.mem_of_mem_take hd),List.length_take];congr 1;omega
   have hfC:(flat (es.drop i)).length=(es.length - i) * 1:=by rw [dflat_length fun d hd=>hw d (List.mem_of_mem_drop hd),List.length_drop]
   have hff:flat es=flat (es.take i)++flat (es.drop i):=by rw [← flat_append,List.take_append_drop]
   have hzl:1≤zs.length:=by rw [List.length_append,hff,List.length_append,hfB,hfC] at hl;omega
   have hmin:Nat.min (es.length+1 - i) (es.length+1 - (i+1))=es.length - i:=by show min _ _=_;omega
   obtain ⟨cs1,hcs1⟩:∃ cs1,splice (flat es++zs) ((i+1) * 1) (flat (es.drop i))=cs1:=⟨_,rfl⟩
   have hcl:cs1.length=c * 1:=by rw [← hcs1,splice_len,hl];rw [hl,hfC];omega
   refine dcopy_win heT hiS (m:=es.length+1 - i) hk (srcOk_win hk (by rw [hsz,hl];omega)) (by rw [hsz,hmin,hl];omega) (cs':=cs1) (by
    rw [hsz,hmin,← hcs1,List.take_take,Nat.min_eq_left (by omega),List.drop_append_of_le_length (by rw [hff,List.length_append,hfB];omega),flat_drop hw,List.take_append_of_le_length (by omega),List.take_of_length_le (by omega)]) ?_
   (refine dd2 @winOff_lt @hwr3 ?_)
   have hmin2:Nat.min 1 (es.length+1 - i)=1:=by show min _ _=_;omega
   refine dcopy_win heT hiS (m:=1) (cs:=cs1) (bt:=9) (news:=flat [x]) (by exact di0) (srcOk_one (by rw [hsz];exact hx)) (by rw [hsz,hmin2,hcl];omega) (cs':=flat (es.take i++[x]++es.drop i)++zs.drop 1) (by rw [hsz,hmin2,List.take_of_length_le (l:=flat [x]) (by omega),← hcs1,hff,ins_old (by rw [hfB]) (by rw [hfB,hfx];omega) (by omega),hfx,flat_append,flat_append]) ?_
   (refine dd0 ?_)
   rw [St.set_set]
   refine ⟨_,_,thaw_rename (o:=.box 9 (flat (es.take i++[x]++es.drop i)++zs.drop 1)) (by simp [St.set]),?_⟩
   rw [St.set_drop]
   have:=h c (zs.drop 1) (by omega) (by
    simp only [List.length_append,flat_append,hfB,hfC,hfx,List.length_drop]
    rw [List.length_append,hff,List.length_append,hfB,hfC] at hl
    omega)
   rw [ownOb_box (by omega)] at this
   exact this
theorem wSs (l:List Str):∀ d∈l.map strD,d.width=1:=fun d hd=>by obtain ⟨p,_,rfl⟩:=List.mem_map.1 hd;rfl
theorem szS:szOf Tryz.prog 9=1:=by kernel_rfl
theorem byS:bytesOf Tryz.prog 9=16:=by kernel_rfl
section
variable {P : Program} {base : Nat} {S : St} {η : Names} {w : World}
theorem flat_vs {α:Type} (g:α→Value) (l:List α):flat (l.map fun a=>D.v (g a))=l.map fun a=>D.v (g a):=by
 induction l with
 | nil=>rfl
 | cons a l ih =>
  have:flat ((a::l).map fun a=>D.v (g a))=D.v (g a)::flat (l.map fun a=>D.v (g a)):=by simp [flat,D.cells]
  rw [this,ih]
  rfl
theorem win_scalars {α:Type} (g:α→Value) (hM:Mem P base S η w) {k c:Nat} {e:TypeId} {l:List α} {zs:List D} {y:Value} (hk:S.ob k=some (ownOb e (l.map fun a=>D.v (g a)) zs c)) (hc:l.length≤c) (h:Rep P w η (Fix P S η) (.win k 0 l.length c) y) :
  ∃ A,y=.slice A l.length c∧RF w (·<w.heap.size) 1 A l.length (l.map g):=by
 obtain ⟨us,⟨⟨A,c',rfl,_,hA⟩,h2,h3⟩,h4⟩:=srcOk_at hM (z:=1) (m:=l.length) (news:=flat (l.map fun a=>D.v (g a))) (by
  have:=srcOk_ownA (z:=1) (c':=c) hk (by rw [List.length_map];exact hc) (fun d hd=>by obtain ⟨a,_,rfl⟩:=List.mem_map.1 hd;rfl)
  rwa [List.length_map] at this) h
 rw [flat_vs] at h4
 have hus:us=l.map g:=by
  have:∀ (l:List α) (us:List Value),RepL P w η (Fix P S η) (l.map fun a=>D.v (g a)) us→us=l.map g:=by
   intro l
   induction l with
   | nil=>intro us h;simp only [List.map_nil,RepL] at h;simp [h]
   | cons a l ih =>
    intro us h
    simp only [List.map_cons,RepL,Rep] at h
    obtain ⟨x,xs,rfl,rfl,h⟩:=h
    rw [ih xs h];rfl
  exact this l us h4
 subst hus
 obtain ⟨A',e1,_⟩:=h.win_slice
 injection e1 with e1 _ e2
 subst e2
 refine ⟨A,rfl,by simp,fun h0=>?_⟩
 rcases hA with ⟨_,h0'⟩ | ⟨a,rfl,ha⟩
 ·omega
 ·have hr:=h
  simp only [Rep] at hr
  rcases hr with ⟨b,hb,e,_⟩ | ⟨_,h0',_⟩
  ·injection e with e
   injection e with e
   subst e
   refine ⟨b,0,rfl,(hM.in_ k b hb).2,fun j u hu=>?_⟩
   have:=ha j u hu
   rwa [Addr.add_mid] at this
  ·omega
end
theorem strIndex_w {S:St} {k c:Nat} {zs:List D} {K:D→St→Prop} (l:List Str) (x:Str) (hn:l.length≤140737488351232) (hk:S.ob k=some (ownOb 9 (l.map strD) zs c)) (hc:l.length≤c) (h:K (.v (.int .i64 (ixI l x))) S) :
  DCalls Tryz.prog 105 [.win k 0 l.length c,.v (sv x)] S K:=fun base η w vs hM hr=>by
 simp only [RepL] at hr
 obtain ⟨y,ys,rfl,h1,z,zs,rfl,h2,rfl⟩:=hr
 obtain ⟨A,rfl,hf⟩:=win_scalars sv hM hk hc h1
 simp only [Rep] at h2
 subst h2
 refine .inl ⟨by kernel_rfl,(strIndex_calls l x A c w hf hn).mono fun e w' ⟨he,hw⟩=>?_⟩
 subst hw
 exact ⟨_,S,η,_,h,idxP_ix he,by simp only [Rep],Goes.refl hM⟩
structure Fz (Q:Nat→Prop) (T X:St):Prop where
 next:T.next≤X.next
 ob:∀ j o,Q j→T.ob j=some o→X.ob j=some o
section
variable {Q Q' : Nat → Prop} {T X Y : St} {k : Nat} {o : Ob}
theorem Fz.refl (Q:Nat→Prop) (T:St):Fz Q T T:=⟨Nat.le_refl _,fun _ _ _ h=>h⟩
theorem Fz.trans (h:Fz Q T X) (g:Fz Q X Y):Fz Q T Y:=⟨Nat.le_trans h.next g.next,fun j o hj e=>g.ob j o hj (h.ob j o hj e)⟩
theorem Fz.mono (h:Fz Q T X) (hq:∀ j,Q' j→Q j):Fz Q' T X:=⟨h.next,fun j o hj e=>h.ob j o (hq j hj) e⟩
end
theorem grow_hit {S:St} {own:Own} {e:TypeId} {n:Nat}:(S.grow own e n).ob S.next=some (.row e n):=by
 cases own <;> simp [St.grow,St.leave,St.add,St.drop]
theorem grow_skip {S:St} {own:Own} {e:TypeId} {n j:Nat} (h1:j ≠ S.next) (h2:∀ g,own=.row g→j ≠ g):(S.grow own e n).ob j=S.ob j:=by
 cases own with
 | row g=>simp [St.grow,St.leave,St.add,St.drop,h1,h2 g rfl]
 | no=>simp [St.grow,St.leave,St.add,h1]
 | full=>simp [St.grow,St.leave,St.add,h1]
def RowAt (lo:Nat) (own:Own) (n:Nat) (e:TypeId) (T:St):Prop:=(own=.full∧n=0)∨∃ g,own=.row g∧lo≤g∧T.ob g=some (.row e n)
theorem RowAt.ne {lo n j:Nat} {own:Own} {e:TypeId} {T:St} (h:RowAt lo own n e T) (hj:j<lo∨∃ t cs,T.ob j=some (.box t cs)):∀ g,own=.row g→j ≠ g:=fun g hg=>by
 rcases h with ⟨h,_⟩ | ⟨g',h,h1,h2⟩
 ·rw [h] at hg;cases hg
 ·rw [h] at hg;injection hg with hg;subst hg
  rintro rfl
  rcases hj with hj | ⟨t,cs,hj⟩
  ·omega
  ·rw [hj] at h2;cases h2
theorem RowAt.lt {lo n:Nat} {own:Own} {e:TypeId} {T:St} (hT:T.WF) (h:RowAt lo own n e T):∀ g,own=.row g→g<T.next:=fun g hg=>by
 rcases h with ⟨h,_⟩ | ⟨g',h,h1,h2⟩
 ·rw [h] at hg;cases hg
 ·rw [h] at hg;injection hg with hg;subst hg
  exact hT.lt h2
theorem RowAt.keep {lo n:Nat} {own:Own} {e:TypeId} {T X:St} (h:RowAt lo own n e T) (hb:∀ g,own=.row g→X.ob g=T.ob g):RowAt lo own n e X:=by
 rcases h with h | ⟨g,h,h1,h2⟩
 ·exact .inl h
 ·exact .inr ⟨g,h,h1,(hb g h).trans h2⟩
theorem dapp_at {P:Program} {S:St} {t ty e:TypeId} {own own2:Own} {es:List D} {x:D} {lo:Nat} {K:D→St→Prop} (he:elT P t=some e) (hz:zeroT P e=true) (h:RowAt lo own es.length e S) (hw:∀ d∈es,d.width=szOf P e) (hx:x.width=szOf P e)
  (hb:es.length+1≤140737488355328) (hb2:(es.length+1) * bytesOf P e≤140737488355328) (k:K (.sl (.row S.next) (es++[x])) (S.grow own e (es.length+1))):dapp P S t t ty (.sl own es) (.sl own2 [x]) K:=by
 refine dapp_row ?_
 simp only [dappend,he,hz,true_and,Option.isSome_some,List.length_cons,List.length_nil]
 refine ⟨hw,fun d hd=>by rw [List.mem_singleton] at hd;subst hd;exact hx,?_,hb,hb2,k⟩
 rcases h with ⟨rfl,h⟩ | ⟨g,rfl,_,h⟩
 ·trivial
 ·exact h
structure Two (o lo:Nat) (e1 e2:TypeId) (f:D→D→List D) (L1 L2:List D) (o1 o2:Own) (T:St):Prop where
 box:T.ob o=some (.box 43 (f (.sl o1 L1) (.sl o2 L2)))
 r1:RowAt lo o1 L1.length e1 T
 r2:RowAt lo o2 L2.length e2 T
def insAt {α:Type} (l:List α) (x:α) (k i:Nat):List α:=if k<i then l.take k++[x]++(l.take i).drop k else l.take i
theorem insAt_zero {α:Type} (l:List α) (x:α) (k:Nat):insAt l x k 0=[]:=by unfold insAt;rw [if_neg (by omega)];simp
theorem insAt_lt {α:Type} {l:List α} {x:α} {k i:Nat} (h:i ≠ k) (hi:i<l.length):insAt l x k (i+1)=insAt l x k i++[l[i]]:=by
 unfold insAt
 by_cases hk:k<i
 ·rw [if_pos (by omega),if_pos hk,List.take_succ_eq_append_getElem hi,List.drop_append_of_le_length (by rw [List.length_take];omega)]
  simp only [List.append_assoc]
 ·rw [if_neg (by omega),if_neg hk,List.take_succ_eq_append_getElem hi]
theorem insAt_at {α:Type} {l:List α} {x:α} {k:Nat} (h:k≤l.length):insAt l x k k++[x]=l.take k++[x]:=by unfold insAt;rw [if_neg (by omega)]
theorem insAt_at2 {α:Type} {l:List α} {x:α} {k:Nat} (h:k<l.length):insAt l x k (k+1)=insAt l x k k++[x]++[l[k]]:=by
 unfold insAt
 rw [if_pos (by omega),if_neg (by omega),List.take_succ_eq_append_getElem h,List.drop_append_of_le_length (by rw [List.length_take];omega),List.drop_of_length_le (by rw [List.length_take];omega),List.nil_append]
structure TwoS (o lo:Nat) (e1 e2:TypeId) (f:D→D→List D) (L1 L2:List D) (o1 o2:Own) (T:St):Prop where
 box:T.ob o=some (.box 25 (f (.sl o1 L1) (.sl o2 L2)))
 r1:RowAt lo o1 L1.length e1 T
 r2:RowAt lo o2 L2.length e2 T
theorem TwoS.apart {o lo:Nat} {e1 e2:TypeId} {f:D→D→List D} {L1 L2:List D} {o1 o2:Own} {T:St} (h:TwoS o lo e1 e2 f L1 L2 o1 o2 T) (hne:e1 ≠ e2):∀ g g',o1=.row g→o2=.row g'→g ≠ g':=fun g g' h1 h2 e=>by
 subst e
 rcases h.r1 with ⟨e1',_⟩ | ⟨a,e1',_,e3⟩
 ·rw [e1'] at h1;cases h1
 ·rw [e1'] at h1;injection h1 with h1;subst h1
  rcases h.r2 with ⟨f1,_⟩ | ⟨b,f1,_,f3⟩
  ·rw [f1] at h2;cases h2
  ·rw [f1] at h2;injection h2 with h2;subst h2
   rw [e3] at f3
   injection f3 with f3
   injection f3 with f3 _
   exact hne f3
theorem TwoS.at1 {o lo:Nat} {e1 e2:TypeId} {f:D→D→List D} {L1 L2:List D} {o1 o2:Own} {T:St} (h:TwoS o lo e1 e2 f L1 L2 o1 o2 T) (hT:T.WF) {j m:Nat} {ob:Ob} (hj:j<lo) (e:T.ob j=some ob):(T.grow o1 e1 m).ob j=some ob:=by
 have:=hT.lt e
 rw [grow_skip (by omega) (h.r1.ne (.inl hj)),e]
theorem TwoS.at2 {o lo:Nat} {e1 e2:TypeId} {f:D→D→List D} {L1 L2:List D} {o1 o2:Own} {T:St} (h:TwoS o lo e1 e2 f L1 L2 o1 o2 T) (hT:T.WF) {j m m2:Nat} {ob:Ob} (hj:j<lo) (e:T.ob j=some ob):((T.grow o1 e1 m).grow o2 e2 m2).ob j=some ob:=by
 have:=hT.lt e
 rw [grow_skip (by rw [grow_next];omega) (h.r2.ne (.inl hj)),h.at1 hT hj e]
theorem TwoS.row2 {o lo:Nat} {e1 e2:TypeId} {f:D→D→List D} {L1 L2:List D} {o1 o2:Own} {T:St} (h:TwoS o lo e1 e2 f L1 L2 o1 o2 T) (hT:T.WF) (hne:e1 ≠ e2) {m:Nat}:RowAt lo o2 L2.length e2 (T.grow o1 e1 m) :=
 h.r2.keep fun g hg=>by
  have:=h.r2.lt hT g hg
  exact grow_skip (by omega) fun g' hg' e=>h.apart hne g' g hg' hg e.symm
theorem twoS_step {o lo:Nat} {e1 e2:TypeId} {f:D→D→List D} {L1 L2 L1' L2':List D} {o1 o2:Own} {T:St} {B:Ob} {m1 m2:Nat} (h:TwoS o lo e1 e2 f L1 L2 o1 o2 T) (hT:T.WF) (hlo:lo≤T.next) (hne:e1 ≠ e2) (hm1:m1=L1'.length) (hm2:m2=L2'.length) :
  TwoS o lo e1 e2 f L1' L2' (.row T.next) (.row (T.next+1)) ((((T.grow o1 e1 m1).grow o2 e2 m2).set o B).set o (.box 25 (f (.sl (.row T.next) L1') (.sl (.row (T.next+1)) L2')))) ∧
  Fz (fun j=>j ≠ o∧j<lo) T ((((T.grow o1 e1 m1).grow o2 e2 m2).set o B).set o (.box 25 (f (.sl (.row T.next) L1') (.sl (.row (T.next+1)) L2')))) ∧
  ((((T.grow o1 e1 m1).grow o2 e2 m2).set o B).set o (.box 25 (f (.sl (.row T.next) L1') (.sl (.row (T.next+1)) L2')))).WF ∧
  ((((T.grow o1 e1 m1).grow o2 e2 m2).set o B).set o (.box 25 (f (.sl (.row T.next) L1') (.sl (.row (T.next+1)) L2')))).next=T.next+2:=by
 subst hm1 hm2
 have hol:=hT.lt h.box
 have hn1:(T.grow o1 e1 L1'.length).next=T.next+1:=grow_next _ _ _ _
 have hn2:((T.grow o1 e1 L1'.length).grow o2 e2 L2'.length).next=T.next+2:=by rw [grow_next,hn1]
 have ho2:∀ g,o2=.row g→T.next ≠ g:=fun g hg=>by have:=h.r2.lt hT g hg;omega
 refine ⟨⟨by simp [St.set],.inr ⟨T.next,rfl,hlo,?_⟩,.inr ⟨T.next+1,rfl,by omega,?_⟩⟩,⟨?_,fun j o' hj e=>?_⟩,?_,hn2⟩
 ·simp only [St.set]
  rw [if_neg (by omega),if_neg (by omega),grow_skip (by rw [hn1];omega) ho2,grow_hit]
 ·simp only [St.set]
  rw [if_neg (by omega),if_neg (by omega),← hn1,grow_hit]
 ·show T.next≤((T.grow o1 e1 L1'.length).grow o2 e2 L2'.length).next
  omega
 ·have:=hT.lt e
  simp only [St.set]
  rw [if_neg hj.1,if_neg hj.1,grow_skip (by rw [hn1];omega) (h.r2.ne (.inl hj.2)),grow_skip (by omega) (h.r1.ne (.inl hj.2)),e]
 ·exact ((((hT.grow _ _ _).grow _ _ _).set (by rw [hn2];omega) _).set (by show o<((T.grow o1 e1 L1'.length).grow o2 e2 L2'.length).next;rw [hn2];omega) _)
theorem TwoS.old {o lo:Nat} {e1 e2:TypeId} {f:D→D→List D} {L1 L2:List D} {o1 o2:Own} {T X:St} (h:TwoS o lo e1 e2 f L1 L2 o1 o2 T) (hT:T.WF) (hx:∀ j,j<T.next→X.ob j=T.ob j):TwoS o lo e1 e2 f L1 L2 o1 o2 X :=
 ⟨by rw [hx _ (hT.lt h.box)];exact h.box,h.r1.keep fun g hg=>hx _ (h.r1.lt hT g hg),h.r2.keep fun g hg=>hx _ (h.r2.lt hT g hg)⟩
theorem TwoS.at1b {o lo:Nat} {e1 e2:TypeId} {f:D→D→List D} {L1 L2:List D} {o1 o2:Own} {T:St} (h:TwoS o lo e1 e2 f L1 L2 o1 o2 T) (hT:T.WF) {j m:Nat} {t:TypeId} {cs:List D} (hj:j<T.next) (e:T.ob j=some (.box t cs)):(T.grow o1 e1 m).ob j=some (.box t cs):=by
 rw [grow_skip (by omega) (h.r1.ne (.inr ⟨t,cs,e⟩)),e]
theorem TwoS.at2b {o lo:Nat} {e1 e2:TypeId} {f:D→D→List D} {L1 L2:List D} {o1 o2:Own} {T:St} (h:TwoS o lo e1 e2 f L1 L2 o1 o2 T) (hT:T.WF) {j m m2:Nat} {t:TypeId} {cs:List D} (hj:j<T.next) (e:T.ob j=some (.box t cs)):((T.grow o1 e1 m).grow o2 e2 m2).ob j=some (.box t cs):=by
 rw [grow_skip (by rw [grow_next];omega) (h.r2.ne (.inr ⟨t,cs,e⟩)),h.at1b hT hj e]
theorem dapp_more {P:Program} {S:St} {t ty e:TypeId} {own own2:Own} {es es2:List D} {K:D→St→Prop} (he:elT P t=some e) (hz:zeroT P e=true) (h:own=.full∨∃ g,own=.row g∧S.ob g=some (.row e es.length)) (hw:∀ d∈es,d.width=szOf P e) (hx:∀ d∈es2,d.width=szOf P e)
  (hb:es.length+es2.length≤140737488355328) (hb2:(es.length+es2.length) * bytesOf P e≤140737488355328) (k:K (.sl (.row S.next) (es++es2)) (S.grow own e (es.length+es2.length))):dapp P S t t ty (.sl own es) (.sl own2 es2) K:=by
 refine dapp_row ?_
 simp only [dappend,he,hz,true_and,Option.isSome_some]
 refine ⟨hw,hx,?_,hb,hb2,k⟩
 rcases h with rfl | ⟨g,rfl,h⟩
 ·trivial
 ·exact h
def gtN (l:List Str) (x:Str):Nat:=l.findIdx fun s=>sLt x s
def gtI (l:List Str) (x:Str):Int:=if gtN l x<l.length then (gtN l x:Int) else -1
theorem getD_strs {l:List Str} {zs:List D} {i:Nat} (h:i<l.length):(flat (l.map strD)++zs).getD i undefD=.v (sv l[i]):=by
 have:flat (l.map strD)=l.map strD:=flat_vs sv l
 rw [this,List.getD_eq_getElem?_getD,List.getElem?_append_left (by simpa using h),List.getElem?_map,List.getElem?_eq_getElem h]
 rfl
theorem len_strs (l:List Str) (zs:List D):(flat (l.map strD)++zs).length=l.length+zs.length:=by
 have:flat (l.map strD)=l.map strD:=flat_vs sv l
 rw [this,List.length_append,List.length_map]
theorem gt_sLt (a b:Str):(!(Op.bytesLess a b || a == b))=sLt b a:=by
 have:=leq_not a b
 rw [this];simp
set_option maxHeartbeats 4000000 in
set_option maxRecDepth 20000 in
theorem ins_sch {S:St} {k c i n:Nat} {es zs:List D} {x:D} {o:Own} {K:D→St→Prop} (hk:S.ob k=some (ownOb 25 es zs c)) (hl:(flat es++zs).length=c * 3) (hw:∀ d∈es,d.width=3) (hx:x.width=3) (hi:i≤es.length) (hn:es.length≤1073741824) (hkn:k<S.next) (hnn:n=es.length)
  (h:∀ (c':Nat) (zs':List D),es.length+1≤c'→(flat (es.take i++[x]++es.drop i)++zs').length=c' * 3→K (.win S.next 0 (n+1) c') ((S.drop k).add (ownOb 25 (es.take i++[x]++es.drop i) zs' c'))) :
  DCalls Tryz.prog 116 [.win k 0 n c,.v (.int .i64 i),.sl o [x]] S K:=by
 subst hnn
 have hc:=ownOb_len hw (by omega) hl
 have heT:elT Tryz.prog 23=some 25:=by kernel_rfl
 have heS:(elT Tryz.prog 23).isSome=true:=by rw [heT];rfl
 have hsz:szOf Tryz.prog 25=3:=by kernel_rfl
 have hby:bytesOf Tryz.prog 25=56:=by kernel_rfl
 have hzT:zeroT Tryz.prog 25=true:=by kernel_rfl
 have hzO:zeroOk Tryz.prog 25=true:=by kernel_rfl
 have hiS:=(zeroT_pos hzT).2
 refine DCalls.thaw ?_
 refine dcalls_inline mixed Tryz.func116 rfl (fun _ _=>by kernel_rfl) (rs:=[.tmp 6]) rfl (by kernel_rfl) (fun hS=>?_)
 have hwr:IntKind.i64.wrap ((es.length:Int)+((1:Nat):Int))=((es.length+1:Nat):Int):=by rw [IntKind.wrap_i64];omega
 have h10:(((1:Nat):Int) == 0)=false:=by decide
 by_cases hin:i=es.length
 ·subst hin
  have b1:((es.length:Int) == (es.length:Int))=true:=by simp
  (refine dd3 @hwr @h10 @b1 ?_)
  refine dappend_own heT heS hzT hzO hk (by rw [hsz];exact hl) (by rw [hsz];exact hw) (es2:=[x]) (srcOk_one (by rw [hsz];exact hx)) rfl (by simp;omega) (by rw [hby];simp;omega) hkn fun c' zs' h1 h2=>?_
  (refine dd0 ?_)
  refine ⟨_,_,Thaw.refl _ _ _,?_⟩
  have:=h c' zs' h1
  rw [List.take_of_length_le (Nat.le_refl _),List.drop_of_length_le (Nat.le_refl _),List.append_nil] at this
  exact this (by rw [hsz] at h2;exact h2)
 ·have b1:((i:Int) == (es.length:Int))=false:=by simp;omega
  have hcap:0<c:=by omega
  have hk0:=hk
  rw [ownOb_box hcap] at hk
  by_cases hgr:c<es.length+1
  ·have b2:decide ((c:Int)<((es.length+1:Nat):Int))=true:=by simp;omega
   have hwr2:IntKind.i64.wrap (((es.length+1:Nat):Int) - (i:Int))=((es.length+1 - i:Nat):Int):=by rw [IntKind.wrap_i64];omega
   have hwr3:IntKind.i64.wrap ((i:Int)+((1:Nat):Int))=((i+1:Nat):Int):=by rw [IntKind.wrap_i64];omega
   (refine dd5 @hwr @h10 @b1 @b2 @hwr2 ?_)
   have hso:=srcOk_own0 (c':=c) hk0 hc hw hi
   refine dappend_zeros heT (kk:=.i64) (by kernel_rfl) hzT hzO hso (by omega) (by omega) (by omega) (by rw [hby];omega) fun c' zs' h1 h2=>?_
   have hfx:(flat [x]).length=3:=by simpa [flat,D.width] using hx
   have hfB:(flat (es.take i)).length=i * 3:=by rw [dflat_length fun d hd=>hw d (List.mem_of_mem_take hd),List.length_take];congr 1;omega
   have hfC:(flat (es.drop i)).length=(es.length - i) * 3:=by rw [dflat_length fun d hd=>hw d (List.mem_of_mem_drop hd),List.length_drop]
   rw [hsz] at h2
   (refine dd1 @winOff_lt ?_)
   have hmin:Nat.min 1 (i+(es.length+1 - i) - i)=1:=by show min _ _=_;omega
   have hzl:3≤zs'.length:=by rw [List.length_append,hfB] at h2;omega
   refine dcopy_win heT hiS (m:=1) (cs:=flat (es.take i)++zs') (bt:=25) (news:=flat [x]) (by exact di0) (srcOk_one (by rw [hsz];exact hx)) (by rw [hsz,h2,hmin];omega) (cs':=flat (es.take i)++flat [x]++zs'.drop 3) (by rw [hsz,hmin,List.take_of_length_le (l:=flat [x]) (by omega),splice_at (by rw [hfB]),hfx]) ?_
   (refine dd2 @winOff_lt @hwr3 ?_)
   refine ddraw_mk 8 (by kernel_rfl) ?_
   (refine dd2 @winOff_lt @hwr3 ?_)
   have hmin2:Nat.min (es.length - i) (i+(es.length+1 - i) - (i+1))=es.length - i:=by show min _ _=_;omega
   have hso2:=srcOk_own (S:=(S.add (.box 25 (flat (es.take i)++zs'))).set S.next (.box 25 (flat (es.take i)++flat [x]++zs'.drop 3))) (l:=i) (n:=es.length - i) (c':=c - i) (k:=k) (c:=c) (e:=25) (es:=es) (zs:=zs) (z:=3) (by exact di1 @hk0) hc hw (by omega)
   rw [List.take_of_length_le (l:=es.drop i) (by rw [List.length_drop];omega)] at hso2
   refine dcopy_win heT hiS (m:=es.length - i) (cs:=flat (es.take i)++flat [x]++zs'.drop 3) (bt:=25) (news:=flat (es.drop i)) (by exact di0) (by rw [hsz];exact hso2) (by rw [hsz,hmin2];simp only [List.length_append,hfB,hfx,List.length_drop];rw [List.length_append,hfB] at h2;omega) (cs':=flat (es.take i++[x]++es.drop i)++(zs'.drop 3).drop ((es.length - i) * 3)) (by rw [hsz,hmin2,List.take_of_length_le (l:=flat (es.drop i)) (by omega),splice_at (by rw [List.length_append,hfB,hfx];omega),hfC,flat_append,flat_append]) ?_
   (refine dd0 ?_)
   refine ⟨_,_,thaw_drop k _,?_⟩
   rw [St.add_set,St.add_set,St.add_drop _ _ hkn]
   have e1:i+(es.length+1 - i)=es.length+1:=by omega
   rw [e1] at h1 ⊢
   have:=h c' (List.drop ((es.length - i) * 3) (List.drop 3 zs')) h1 (by
    simp only [List.length_append,flat_append,hfB,hfC,hfx,List.length_drop]
    rw [List.length_append,hfB] at h2
    omega)
   rw [ownOb_box (by omega)] at this
   exact this
  ·have b2:decide ((c:Int)<((es.length+1:Nat):Int))=false:=by simp;omega
   have hwr3:IntKind.i64.wrap ((i:Int)+((1:Nat):Int))=((i+1:Nat):Int):=by rw [IntKind.wrap_i64];omega
   (refine dd6 @hwr @hwr3 @h10 @b1 @b2 @winOff_lt ?_)
   refine doverlaps (tr:=4) Tryz.func148 (by kernel_rfl) (by kernel_rfl) (by kernel_rfl) (by kernel_rfl) heT hiS hk (fun e=>by rw [e] at hl;simp at hl;omega) ?_
   (refine dd1 @winOff_lt ?_)
   refine ddraw_mk 8 (by kernel_rfl) ?_
   (refine dd2 @winOff_lt @hwr3 ?_)
   have hfx:(flat [x]).length=3:=by simpa [flat,D.width] using hx
   have hfB:(flat (es.take i)).length=i * 3:=by rw [dflat_length fun d hd=>hw d (List.mem_of_mem_take hd),List.length_take];congr 1;omega
   have hfC:(flat (es.drop i)).length=(es.length - i) * 3:=by rw [dflat_length fun d hd=>hw d (List.mem_of_mem_drop hd),List.length_drop]
   have hff:flat es=flat (es.take i)++flat (es.drop i):=by rw [← flat_append,List.take_append_drop]
   have hzl:3≤zs.length:=by rw [List.length_append,hff,List.length_append,hfB,hfC] at hl;omega
   have hmin:Nat.min (es.length+1 - i) (es.length+1 - (i+1))=es.length - i:=by show min _ _=_;omega
   obtain ⟨cs1,hcs1⟩:∃ cs1,splice (flat es++zs) ((i+1) * 3) (flat (es.drop i))=cs1:=⟨_,rfl⟩
   have hcl:cs1.length=c * 3:=by rw [← hcs1,splice_len,hl];rw [hl,hfC];omega
   refine dcopy_win heT hiS (m:=es.length+1 - i) hk (srcOk_win hk (by rw [hsz,hl];omega)) (by rw [hsz,hmin,hl];omega) (cs':=cs1) (by
    rw [hsz,hmin,← hcs1,List.take_take,Nat.min_eq_left (by omega),List.drop_append_of_le_length (by rw [hff,List.length_append,hfB];omega),flat_drop hw,List.take_append_of_le_length (by omega),List.take_of_length_le (by omega)]) ?_
   (refine dd2 @winOff_lt @hwr3 ?_)
   have hmin2:Nat.min 1 (es.length+1 - i)=1:=by show min _ _=_;omega
   refine dcopy_win heT hiS (m:=1) (cs:=cs1) (bt:=25) (news:=flat [x]) (by exact di0) (srcOk_one (by rw [hsz];exact hx)) (by rw [hsz,hmin2,hcl];omega) (cs':=flat (es.take i++[x]++es.drop i)++zs.drop 3) (by rw [hsz,hmin2,List.take_of_length_le (l:=flat [x]) (by omega),← hcs1,hff,ins_old (by rw [hfB]) (by rw [hfB,hfx];omega) (by omega),hfx,flat_append,flat_append]) ?_
   (refine dd0 ?_)
   rw [St.set_set]
   refine ⟨_,_,thaw_rename (o:=.box 25 (flat (es.take i++[x]++es.drop i)++zs.drop 3)) (by simp [St.set]),?_⟩
   rw [St.set_drop]
   have:=h c (zs.drop 3) (by omega) (by
    simp only [List.length_append,flat_append,hfB,hfC,hfx,List.length_drop]
    rw [List.length_append,hff,List.length_append,hfB,hfC] at hl
    omega)
   rw [ownOb_box (by omega)] at this
   exact this

set_option maxHeartbeats 4000000 in
set_option maxRecDepth 20000 in
theorem del_str {S:St} {k c i n:Nat} {es zs:List D} {K:D→St→Prop} (hk:S.ob k=some (ownOb 9 es zs c)) (hl:(flat es++zs).length=c * 1) (hw:∀ d∈es,d.width=1) (hi:i<es.length) (hn:es.length≤1073741824) (hnn:n=es.length)
  (h:∀ zs':List D,(flat (es.take i++es.drop (i+1))++zs').length=c * 1→K (.win k 0 (n - 1) c) (S.set k (ownOb 9 (es.take i++es.drop (i+1)) zs' c))) :
  DCalls Tryz.prog 139 [.win k 0 n c,.v (.int .i64 i),.v (.int .i64 (i+1:Nat))] S K:=by
 subst hnn
 have hc:=ownOb_len hw (by omega) hl
 have heT:elT Tryz.prog 22=some 9:=by kernel_rfl
 have heS:(elT Tryz.prog 22).isSome=true:=by rw [heT];rfl
 have hsz:szOf Tryz.prog 9=1:=by kernel_rfl
 have hby:bytesOf Tryz.prog 9=16:=by kernel_rfl
 have hzT:zeroT Tryz.prog 9=true:=by kernel_rfl
 have hzO:zeroOk Tryz.prog 9=true:=by kernel_rfl
 have hiS:=(zeroT_pos hzT).2
 have hk0:=hk
 rw [ownOb_box (by omega)] at hk
 refine dcalls_inline mixed Tryz.func139 rfl (fun _ _=>by kernel_rfl) (rs:=[.tmp 6]) rfl (by kernel_rfl) (fun hS=>?_)
 have b1:((i:Int) == ((i+1:Nat):Int))=false:=by simp;omega
 (refine dd2 @b1 @winOff_zero ?_)
 refine ddraw_mk 6 (by kernel_rfl) ?_
 (refine dd2 @b1 @winOff_zero ?_)
 have hf1:(flat (es.take i)).length=i * 1:=by rw [dflat_length fun d hd=>hw d (List.mem_of_mem_take hd),List.length_take];congr 1;omega
 have hf2:(flat (es.drop (i+1))).length=(es.length - (i+1)) * 1:=by rw [dflat_length fun d hd=>hw d (List.mem_of_mem_drop hd),List.length_drop]
 have hf3:flat es=flat (es.take i)++flat (es.drop i):=by rw [← flat_append,List.take_append_drop]
 have hs:SrcOk S (szOf Tryz.prog 9) (.win k (winOff c (i+1) 0 1) (es.length - (i+1)) (c - (i+1))) (es.length - (i+1)) (flat (es.drop (i+1))):=by
  rw [hsz]
  rcases Nat.lt_or_ge (i+1) c with h1 | h1
  ·rw [winOff_lt h1,Nat.zero_add]
   have:=srcOk_own (l:=i+1) (n:=es.length - (i+1)) hk0 hc hw (by omega) (c':=c - (i+1))
   rwa [List.take_of_length_le (by rw [List.length_drop];omega)] at this
  ·have e0:es.length - (i+1)=0:=by omega
   have e1:es.drop (i+1)=[]:=List.drop_of_length_le (by omega)
   rw [e0,e1]
   exact ⟨rfl,.inl ⟨rfl,rfl⟩⟩
 have e1:i+(es.length - (i+1))=es.length - 1:=by omega
 have hmul:(es.length - 1) * 1≤c * 1:=Nat.mul_le_mul_right _ (by omega)
 have hmul1:i * 1+(es.length - (i+1)) * 1=(es.length - 1) * 1:=by rw [← Nat.add_mul,e1]
 have hmul2:(es.length - 1) * 1+1 * 1=es.length * 1:=by rw [← Nat.add_mul];congr 1;omega
 have hmul3:es.length * 1≤c * 1:=Nat.mul_le_mul_right _ hc
 obtain ⟨z1,hz1⟩:∃ z1,(flat (es.drop i)++zs).drop (flat (es.drop (i+1))).length=z1:=⟨_,rfl⟩
 have hl1:(flat (es.take i++es.drop (i+1))++z1).length=c * 1:=by
  rw [hf3] at hl
  rw [← hz1]
  simp only [flat_append,List.length_append,List.length_drop,hf1,hf2] at hl ⊢
  omega
 refine dappend_in heT heS hiS (m:=es.length - (i+1)) hk hs (by omega) (by omega) (by rw [hsz,e1,hl];omega) (cs':=flat (es.take i++es.drop (i+1))++z1) (by
  rw [hsz,hf3,List.append_assoc,splice_at (by rw [hf1];omega),flat_append,hz1]) ?_
 rw [e1]
 have wl:winOff c (es.length - 1) 0 1=(es.length - 1) * 1:=by rw [winOff_lt (by omega),Nat.zero_add]
 (refine dd1 @wl ?_)
 have e2:es.length - (es.length - 1)=1:=by omega
 have hfl:(flat (es.take i++es.drop (i+1))).length=(es.length - 1) * 1:=by rw [flat_append,List.length_append,hf1,hf2];omega
 rw [e2]
 refine dclear_win heT hzT hzO (bt:=9) (cs:=flat (es.take i++es.drop (i+1))++z1) (by exact di0) (by rw [hsz,hl1];omega) fun z2 hz2=>?_
 rw [hsz] at hz2
 rw [splice_at (by rw [hfl])]
 (refine dd0 ?_)
 rw [St.set_set,List.append_assoc]
 have:=h (z2++z1.drop z2.length) (by
  simp only [List.length_append,List.length_drop] at hl1 ⊢
  omega)
 rw [ownOb_box (by omega)] at this
 exact this

set_option maxHeartbeats 4000000 in
set_option maxRecDepth 20000 in
theorem del_sch {S:St} {k c i n:Nat} {es zs:List D} {K:D→St→Prop} (hk:S.ob k=some (ownOb 25 es zs c)) (hl:(flat es++zs).length=c * 3) (hw:∀ d∈es,d.width=3) (hi:i<es.length) (hn:es.length≤1073741824) (hnn:n=es.length)
  (h:∀ zs':List D,(flat (es.take i++es.drop (i+1))++zs').length=c * 3→K (.win k 0 (n - 1) c) (S.set k (ownOb 25 (es.take i++es.drop (i+1)) zs' c))) :
  DCalls Tryz.prog 140 [.win k 0 n c,.v (.int .i64 i),.v (.int .i64 (i+1:Nat))] S K:=by
 subst hnn
 have hc:=ownOb_len hw (by omega) hl
 have heT:elT Tryz.prog 23=some 25:=by kernel_rfl
 have heS:(elT Tryz.prog 23).isSome=true:=by rw [heT];rfl
 have hsz:szOf Tryz.prog 25=3:=by kernel_rfl
 have hby:bytesOf Tryz.prog 25=56:=by kernel_rfl
 have hzT:zeroT Tryz.prog 25=true:=by kernel_rfl
 have hzO:zeroOk Tryz.prog 25=true:=by kernel_rfl
 have hiS:=(zeroT_pos hzT).2
 have hk0:=hk
 rw [ownOb_box (by omega)] at hk
 refine dcalls_inline mixed Tryz.func140 rfl (fun _ _=>by kernel_rfl) (rs:=[.tmp 6]) rfl (by kernel_rfl) (fun hS=>?_)
 have b1:((i:Int) == ((i+1:Nat):Int))=false:=by simp;omega
 (refine dd2 @b1 @winOff_zero ?_)
 refine ddraw_mk 6 (by kernel_rfl) ?_
 (refine dd2 @b1 @winOff_zero ?_)
 have hf1:(flat (es.take i)).length=i * 3:=by rw [dflat_length fun d hd=>hw d (List.mem_of_mem_take hd),List.length_take];congr 1;omega
 have hf2:(flat (es.drop (i+1))).length=(es.length - (i+1)) * 3:=by rw [dflat_length fun d hd=>hw d (List.mem_of_mem_drop hd),List.length_drop]
 have hf3:flat es=flat (es.take i)++flat (es.drop i):=by rw [← flat_append,List.take_append_drop]
 have hs:SrcOk S (szOf Tryz.prog 25) (.win k (winOff c (i+1) 0 3) (es.length - (i+1)) (c - (i+1))) (es.length - (i+1)) (flat (es.drop (i+1))):=by
  rw [hsz]
  rcases Nat.lt_or_ge (i+1) c with h1 | h1
  ·rw [winOff_lt h1,Nat.zero_add]
   have:=srcOk_own (l:=i+1) (n:=es.length - (i+1)) hk0 hc hw (by omega) (c':=c - (i+1))
   rwa [List.take_of_length_le (by rw [List.length_drop];omega)] at this
  ·have e0:es.length - (i+1)=0:=by omega
   have e1:es.drop (i+1)=[]:=List.drop_of_length_le (by omega)
   rw [e0,e1]
   exact ⟨rfl,.inl ⟨rfl,rfl⟩⟩
 have e1:i+(es.length - (i+1))=es.length - 1:=by omega
 have hmul:(es.length - 1) * 3≤c * 3:=Nat.mul_le_mul_right _ (by omega)
 have hmul1:i * 3+(es.length - (i+1)) * 3=(es.length - 1) * 3:=by rw [← Nat.add_mul,e1]
 have hmul2:(es.length - 1) * 3+1 * 3=es.length * 3:=by rw [← Nat.add_mul];congr 1;omega
 have hmul3:es.length * 3≤c * 3:=Nat.mul_le_mul_right _ hc
 obtain ⟨z1,hz1⟩:∃ z1,(flat (es.drop i)++zs).drop (flat (es.drop (i+1))).length=z1:=⟨_,rfl⟩
 have hl1:(flat (es.take i++es.drop (i+1))++z1).length=c * 3:=by
  rw [hf3] at hl
  rw [← hz1]
  simp only [flat_append,List.length_append,List.length_drop,hf1,hf2] at hl ⊢
  omega
 refine dappend_in heT heS hiS (m:=es.length - (i+1)) hk hs (by omega) (by omega) (by rw [hsz,e1,hl];omega) (cs':=flat (es.take i++es.drop (i+1))++z1) (by
  rw [hsz,hf3,List.append_assoc,splice_at (by rw [hf1];omega),flat_append,hz1]) ?_
 rw [e1]
 have wl:winOff c (es.length - 1) 0 3=(es.length - 1) * 3:=by rw [winOff_lt (by omega),Nat.zero_add]
 (refine dd1 @wl ?_)
 have e2:es.length - (es.length - 1)=1:=by omega
 have hfl:(flat (es.take i++es.drop (i+1))).length=(es.length - 1) * 3:=by rw [flat_append,List.length_append,hf1,hf2];omega
 rw [e2]
 refine dclear_win heT hzT hzO (bt:=25) (cs:=flat (es.take i++es.drop (i+1))++z1) (by exact di0) (by rw [hsz,hl1];omega) fun z2 hz2=>?_
 rw [hsz] at hz2
 rw [splice_at (by rw [hfl])]
 (refine dd0 ?_)
 rw [St.set_set,List.append_assoc]
 have:=h (z2++z1.drop z2.length) (by
  simp only [List.length_append,List.length_drop] at hl1 ⊢
  omega)
 rw [ownOb_box (by omega)] at this
 exact this
theorem wScs (l:List DSch):∀ d∈l.map encS,d.width=3:=fun d hd=>by obtain ⟨p,_,rfl⟩:=List.mem_map.1 hd;exact cells_encS _
theorem szSc:szOf Tryz.prog 25=3:=by kernel_rfl
theorem bySc:bytesOf Tryz.prog 25=56:=by kernel_rfl
theorem elSt:elT Tryz.prog 22=some 9:=by kernel_rfl
theorem elSc:elT Tryz.prog 23=some 25:=by kernel_rfl
def ownS (s:DSch) (a b ca cb:Nat):D:=.agg [.v (.int .i64 s.kind),.win a 0 s.words.length ca,.win b 0 s.parts.length cb]
structure OS (T:St) (s:DSch) (a b ca cb:Nat) (zn zp:List D):Prop where
 obn:T.ob a=some (ownOb 9 (s.words.map strD) zn ca)
 ln:(flat (s.words.map strD)++zn).length=ca * 1
 obp:T.ob b=some (ownOb 25 (s.parts.map encS) zp cb)
 lp:(flat (s.parts.map encS)++zp).length=cb * 3
 ab:a ≠ b
theorem sPartsLen (v:DSch):v.parts.length≤v.weight∧v.words.length≤v.weight:=by
 have h:=v.weight_eq
 have:∀ l:List DSch,l.length≤DSch.weights l:=fun l=>by
  induction l with
  | nil=>exact Nat.zero_le _
  | cons p l ih=>simp only [DSch.weights,List.length_cons];have:=p.weight_eq;omega
 have:=this v.parts
 omega
theorem thaw_last {P:Program} {S:St} (e:TypeId) (x y:D):Thaw P S (.agg [x,y,.sl .full []]) (S.add (.row e 0)) (.agg [x,y,.win S.next 0 0 0]):=fun base η w v hM hr=>by
 simp only [Rep,RepL,OwnAt] at hr
 obtain ⟨vs,rfl,⟨x',_,rfl,hx,y',_,rfl,hy,z',_,rfl,⟨A,c,rfl,_,_,rfl,_⟩,rfl⟩,h1⟩:=hr
 have G:=goes_bare hM e 0
 refine ⟨_,G,?_⟩
 unfold Rep
 simp only [RepL]
 refine ⟨_,rfl,⟨x',_,rfl,G.rep hx,y',_,rfl,G.rep hy,_,_,rfl,?_,rfl⟩,h1⟩
 unfold Rep
 exact .inr ⟨by simp [Names.add],rfl,rfl,A,rfl⟩
section
set_option maxRecDepth 200000
set_option maxHeartbeats 8000000
theorem copy_os (s:DSch) (hok:okS s) (hw:s.weight≤1000000) {S:St} {K:D→St→Prop}
  (hK:∀ T a b ca cb zn zp,S.Sub T→T.WF→S.next≤a→S.next≤b→OS T s a b ca cb zn zp→K (ownS s a b ca cb) T) :
  DCalls Tryz.prog 44 [encS s] S K:=by
 have hpl:=sPartsLen s
 refine DCalls.thaw ?_
 refine dcalls_inline mixed Tryz.func44 rfl (fun _ _=>by kernel_rfl) (rs:=[.cell 2 25]) rfl (by kernel_rfl) (fun hS=>?_)
 (refine dd1 (encS_eq s) ?_)
 refine dapp_nil elSt (dappend_fresh elSt (by rw [elSt];rfl) (by kernel_rfl) (by kernel_rfl) (es2:=s.words.map strD) (srcOk_sl (by rw [szS];exact wSs _)) rfl (by rw [List.length_map];omega) (by rw [byS,List.length_map];omega) fun ca zn _ hln=>?_)
 rw [szS] at hln
 rw [List.length_map]
 (refine dd0 ?_)
 generalize hX:St.set (St.add (St.add (St.add S _) _) _) _ _=S1
 have hs1:S.Sub S1:=by rw [← hX];exact ((((St.Sub.refl S).add hS _).add hS _).add hS _).set hS (Nat.le_refl _) _
 have hW1:S1.WF:=by rw [← hX];exact wfA
 have hn1:S1.next=S.next+3:=by rw [← hX];rfl
 have b0:S1.ob S.next=some (.box 25 [.v (.int .i64 s.kind),.win (S.next+1+1) 0 s.words.length ca,.sl .no (s.parts.map encS)]):=by rw [← hX];exact di0
 have b1:S1.ob (S.next+1)=some (.box 25 [.v (.int .i64 0),.sl .full [],.sl .full []]):=by rw [← hX];exact di0
 have ba:S1.ob (S.next+1+1)=some (ownOb 9 (s.words.map strD) zn ca):=by rw [← hX];exact di0
 clear hX
 refine dloop_up (fun t=>List.contains [3,5,13,14,15,16,17,18,19,20,21,22] t) (by kernel_rfl) hW1 s.parts.length (fun i g T=>i≤s.parts.length∧g 13=.v (.int .i64 ((i:Nat):Int))∧S1.Sub T∧∃ d,g 3=d∧OwnD Tryz.prog T 25 ((s.parts.take i).map encS) d∧∀ k o n c,d=.win k o n c→S1.next≤k)
  ⟨Nat.zero_le _,by exact di0,St.Sub.refl _,.sl .full [],by exact di0,.inl ⟨rfl,rfl⟩,fun _ _ _ _ e=>by cases e⟩ ?_
 rintro i g T hT hg ⟨le,q13,hsT,d,q3,hO,hlo⟩
 (have q1:=hg 1 rfl;have q2:=hg 2 rfl;have q11:=hg 11 rfl;have q12:=hg 12 rfl;simp (disch:=first | decide | omega | (simp only [nx];first | done | omega)) only [go_sem,b0] at q1 q2 q11 q12;clear hg)
 have b0T:=hsT.ob _ _ b0
 have b1T:=hsT.ob _ _ b1
 have baT:=hsT.ob _ _ ba
 have hnT:=hsT.next
 have ho:=(okS_eq s).1 hok
 by_cases hlt:i<s.parts.length
 ·have b1:decide ((i:Int)<(s.parts.length:Int))=true:=decide_eq_true (by omega)
  have w1:IntKind.i64.wrap ((i:Int)+1)=((i+1:Nat):Int):=IntWalk.i64_in _ ⟨by omega,by omega⟩
  have hxp:=getD_map encS s.parts i hlt
  have hwp:s.parts[i].weight≤1000000:=by have:=DSch.weight_part (List.getElem_mem hlt);omega
  (refine dd6 @q11 @q12 @q13 @b1 @hxp @hlt ?_)
  refine DCalls.of_pure (schCopy_d s.parts[i] (ho.2.2.2.2 _ (List.getElem_mem hlt)) hwp) ?_
  (refine dd4 @q3 @q11 @q12 @q13 ?_)
  generalize hX:St.set (St.add T _) _ _=T1
  have hsT1:T.Sub T1:=by rw [← hX];exact ((St.Sub.refl T).add hT _).set hT (Nat.le_refl _) _
  have hT1:T1.WF:=by rw [← hX];exact wfA
  have hnT1:T1.next=T.next+1:=by rw [← hX];rfl
  clear hX
  have hO1:=hO.mono hsT1
  refine dapp_ownD (es:=(s.parts.take i).map encS) (es2:=[encS s.parts[i]]) elSc (by rw [elSc];rfl) (by kernel_rfl) (by kernel_rfl) hO1 (by rw [szSc];exact wScs _) (by rw [szSc];exact wScs [s.parts[i]]) (by simp;omega) (by rw [bySc];simp;omega) fun c' zs' h2=>?_
  rw [szSc] at h2
  have hsl:=OwnD.sub (P:=Tryz.prog) hW1 (hsT.trans hsT1) hO1 hlo
  have hli:(s.parts.take i).length=i:=by rw [List.length_take];omega
  have e1:(s.parts.take i).map encS++[encS s.parts[i]]=(s.parts.take (i+1)).map encS:=by rw [List.take_succ_eq_append_getElem hlt,List.map_append];rfl
  have hl1:(s.parts.take (i+1)).length=i+1:=by rw [List.length_take];omega
  have hln2:(T1.left d).next=T1.next:=left_next _ _
  (refine dd4 @q11 @q12 @q13 @w1 ?_)
  refine ⟨by omega,_,fun _ _ h=>h,by omega,by exact di1 @w1,hsl.add hW1 _,_,rfl,.inr ⟨T1.next,c',zs',?_,?_,?_,?_⟩,?_⟩
  ·simp (disch:=first | decide | omega | (simp only [nx];first | done | omega)) only [go_sem];rw [hli,hl1]
  ·rw [← e1]
   simp only [St.add]
   rw [hln2,if_pos rfl]
  ·rw [szSc,← e1];exact h2
  ·show T1.next<(T1.left d).next+1
   omega
  ·intro k o n c e
   injection e with e _ _ _
   omega
 ·have b1:decide ((i:Int)<(s.parts.length:Int))=false:=decide_eq_false (by omega)
  have hil:i=s.parts.length:=by omega
  rw [hil,List.take_of_length_le (Nat.le_refl _)] at hO
  have hsub:=hs1.trans hsT
  rcases hO with ⟨e1,rfl⟩ | ⟨k,c,zs,rfl,hk,hz,hkn⟩
  ·(refine dd9 @q1 @q2 @q3 @q11 @q12 @q13 @b1 @b0T @b1T ?_)
   have hp0:s.parts=[]:=List.map_eq_nil_iff.1 e1
   refine ⟨_,_,thaw_last 25 _ _,?_⟩
   have hpl0:s.parts.length=0:=by rw [hp0];rfl
   generalize hX:St.set (St.set T S.next _) _ _=T2
   have hs2:S.Sub T2:=by rw [← hX];exact (hsub.set hS (Nat.le_refl _) _).set hS (Nat.le_succ _) _
   have hT2:T2.WF:=by rw [← hX];exact (hT.set (by omega) _).set (by show S.next+1<T.next;omega) _
   have ba2:T2.ob (S.next+1+1)=some (ownOb 9 (s.words.map strD) zn ca):=by rw [← hX];exact di1 @baT
   have hn2:S.next+3≤T2.next:=by rw [← hX];show S.next+3≤T.next;omega
   clear hX
   have e0:(D.agg [.v (.int .i64 s.kind),.win (S.next+1+1) 0 s.words.length ca,.win T2.next 0 0 0])=ownS s (S.next+1+1) T2.next ca 0:=by rw [ownS,hpl0]
   rw [e0]
   refine hK _ _ _ _ _ zn [] (hs2.add hS _) (hT2.add _) (by omega) hs2.next ⟨?_,hln,?_,?_,by omega⟩
   ·simp only [St.add];rw [if_neg (by omega)];exact ba2
   ·simp only [St.add,if_true,hp0];rfl
   ·rw [hp0];rfl
  ·have hk0:=hlo _ _ _ _ rfl
   (refine dd9 @q1 @q2 @q3 @q11 @q12 @q13 @b1 @b0T @b1T ?_)
   refine ⟨_,_,Thaw.refl _ _ _,?_⟩
   refine hK _ (S.next+1+1) k ca c zn zs ((hsub.set hS (Nat.le_refl _) _).set hS (Nat.le_succ _) _) ((hT.set (by omega) _).set (by show S.next+1<T.next;omega) _) (by omega) (by omega) ⟨?_,hln,?_,by rw [← szSc];exact hz,by omega⟩
   ·exact di1 @baT
   ·exact di1 @hk
end
def DSch.ofFields (v:DSch) (ns:List Str) (ps:List DSch):DSch:=.mk v.kind ns ps
def atN (l:List Str) (x:Str):Nat:=gtN l x
def withS (v:DSch) (x:Str) (p:DSch):DSch :=
 if wholeS v=false then v
 else if x∈v.words then v.ofFields v.words (v.parts.set (ixN v.words x) p)
 else v.ofFields (v.words.take (atN v.words x)++[x]++v.words.drop (atN v.words x)) (v.parts.take (atN v.words x)++[p]++v.parts.drop (atN v.words x))
theorem thawOS {T:St} {v:DSch} {a c ca cc:Nat} {zn zp:List D} (h:OS T v a c ca cc zn zp):Thaw Tryz.prog T (ownS v a c ca cc) ((T.drop a).drop c) (encS v):=by
 have hca:c ≠ a:=fun e=>h.ab e.symm
 have n1:=ownOb_len (wSs v.words) (by omega) h.ln
 have n3:=ownOb_len (wScs v.parts) (by omega) h.lp
 have bne:∀ {x y:Nat},x ≠ y→Nat.beq x y=false:=fun {x y} hne=>by
  cases hb:Nat.beq x y with
  | false=>rfl
  | true=>exact absurd (Nat.eq_of_beq_eq_true hb) hne
 refine Thaw.trans (thaw_own (zs:=zn) h.obn n1 (by rw [szS];omega) (by rw [szS];exact wSs _) rfl) ?_
 refine thaw_own (k:=c) (zs:=zp) (c:=cc) (e:=25) (es:=v.parts.map encS) (by simp only [St.drop,if_neg hca];exact h.obp) n3 (by rw [szSc];omega) (by rw [szSc];exact wScs _) ?_
 simp only [ownS,D.thaw,thawL,List.length_map,Nat.beq_refl,Bool.and_self,Bool.and_true,cond_true,bne h.ab,bne hca,Bool.false_and,cond_false]
 rw [encS_eq]
theorem fin_owns {S T:St} {v:DSch} {a c ca cc:Nat} {zn zp:List D} (hS:S.WF) (hs:S.Sub T) (ha:S.next≤a) (hc:S.next≤c) (h:OS T v a c ca cc zn zp) :
  DFinT Tryz.prog S T (ownS v a c ca cc) (fun d' T'=>d'=encS v∧T'=S) :=
 ⟨_,_,thawOS h,fin_pure hS (closed_encS v) ⟨hs.next,fun j o hj=>by
  have:=hS.lt hj
  simp only [St.drop]
  rw [if_neg (by omega),if_neg (by omega)]
  exact hs.ob j o hj⟩⟩
set_option maxRecDepth 200000 in
set_option maxHeartbeats 4000000 in
theorem whole_ws (v:DSch) (a c ca cc:Nat):DPure Tryz.prog 106 [ownS v a c ca cc] (.v (.bool (wholeS v))):=by
 refine dpure_of_dwp mixed Tryz.func106 rfl (fun _ _=>by kernel_rfl) (rs:=[.tmp 2]) rfl (by kernel_rfl) trivial (fun S hS=>?_)
 by_cases h5:v.kind=5
 ·have b5:(v.kind == 5)=true:=by simp [h5]
  simp only [go_sem,add_ob,set_ob,ownS,b5]
  refine ⟨?_,(St.Sub.refl S).add hS _⟩
  simp only [D.frz,wholeS,decide_eq_true h5,Bool.true_and]
  congr 3
  exact propext ⟨fun h=>by omega,fun h=>by omega⟩
 ·have b5:(v.kind == 5)=false:=by simp [h5]
  simp only [go_sem,add_ob,set_ob,ownS,b5]
  exact ⟨by simp only [D.frz,wholeS,decide_eq_false h5,Bool.false_and],(St.Sub.refl S).add hS _⟩
set_option maxRecDepth 200000 in
set_option maxHeartbeats 4000000 in
theorem idxGtS_w {S:St} {k c t:Nat} {zs:List D} {K:D→St→Prop} (l:List Str) (x:Str) (hn:l.length≤1000000) (hk:S.ob k=some (ownOb 9 (l.map strD) zs c)) (hc:l.length≤c) (ht:S.ob t=some (.box 9 [.v (sv x)])) (h:K (.v (.int .i64 (gtI l x))) S) :
  DCalls Tryz.prog 113 [.win k 0 l.length c,.fn (.func 114) [] [.loc t 0]] S K:=by
 refine dcalls_inline mixed Tryz.func113 rfl (fun _ _=>by kernel_rfl) (rs:=[.tmp 4]) rfl (by kernel_rfl) (fun hS=>?_)
 (refine dd0 ?_)
 refine dloop_up (fun t=>List.contains [4,5,8,9,10,11,12,13,14,15,16,17,18] t) (by kernel_rfl) hS l.length (fun i g T=>i≤l.length∧g 8=.v (.int .i64 ((i:Nat):Int))∧(∀ (r:Nat) (hr:r<l.length),r<i→sLt x l[r]=false)∧T=S) ⟨by omega,by exact di0,fun r _ h=>by omega,rfl⟩ ?_
 rintro i g T hT hg ⟨le,q8,hno,rfl⟩
 have q0:=hg 0 rfl
 have q1:=hg 1 rfl
 have q7:=hg 7 rfl
 simp (disch:=first | decide | omega | (simp only [nx];first | done | omega)) only [go_sem] at q0 q1 q7
 clear hg
 by_cases hlt:i<l.length
 ·have b1:decide ((i:Int)<(l.length:Int))=true:=by simp;omega
  have w1:IntKind.i64.wrap ((i:Int)+1)=((i+1:Nat):Int):=IntWalk.i64_in _ ⟨by omega,by omega⟩
  have hk':=hk
  rw [ownOb_box (by omega)] at hk'
  have hg1:=getD_strs (zs:=zs) hlt
  have hl1:=len_strs l zs
  (refine dd9 @q0 @q1 @q7 @q8 @b1 @hk' @Nat.mul_one @hg1 @hl1 ?_)
  refine dcalls_inline mixed Tryz.func114 rfl (fun _ _=>by kernel_rfl) (rs:=[.tmp 3]) rfl (by kernel_rfl) (fun hS=>?_)
  (refine dd1 @ht ?_)
  cases hx:sLt x l[i]
  ·have b2:(!(Op.bytesLess l[i] x || l[i] == x))=false:=by rw [gt_sLt,hx]
   (refine dd3 @b2 @q8 @w1 ?_)
   refine ⟨hlt,T.ob,fun _ _ h=>h,by omega,by exact di0,fun r hr hri=>?_,rfl⟩
   by_cases e:r=i
   ·subst e;exact hx
   ·exact hno r hr (by omega)
  ·have b2:(!(Op.bytesLess l[i] x || l[i] == x))=true:=by rw [gt_sLt,hx]
   (refine dd1 @b2 ?_)
   have e1:gtN l x=i:=(List.findIdx_eq hlt).2 ⟨hx,fun j hj=>hno j (by omega) hj⟩
   rw [gtI,e1,if_pos hlt] at h
   exact h
 ·have b1:decide ((i:Int)<(l.length:Int))=false:=by simp;omega
  (refine dd5 @q0 @q1 @q7 @q8 @b1 ?_)
  have e1:gtN l x=l.length:=List.findIdx_eq_length.2 fun y hy=>by
   obtain ⟨j,hj,rfl⟩:=List.getElem_of_mem hy
   exact hno j hj (by omega)
  rw [gtI,e1,if_neg (by omega)] at h
  exact h
set_option maxRecDepth 200000 in
set_option maxHeartbeats 8000000 in
theorem withS_d (v p:DSch) (x:Str) (hokv:okS v) (hokp:okS p) (hv:v.weight≤100000) (hp:p.weight≤100000) (hx:x.length≤maxLen):DPure Tryz.prog 80 [encS v,.v (sv x),encS p] (encS (withS v x p)):=fun S=>by
 refine dcalls_of_dwp mixed Tryz.func80 rfl (fun _ _=>by kernel_rfl) (rs:=[.cell 6 25]) rfl (by kernel_rfl) (fun hS=>?_)
 (refine dd0 ?_)
 refine copy_os v hokv (by omega) fun T a c ca cc zn zp hs hT ha hc hO=>?_
 have hsn:=hs.next
 simp only [add_next] at hsn ha hc
 have hst:S.Sub T:=St.Sub.trans (((((St.Sub.refl S).add hS _).add hS _).add hS _).add hS _) hs
 have u3:T.ob S.next=some (.box 25 (encS v).cells):=hs.ob _ _ (by exact di0)
 have u4:T.ob (S.next+1)=some (.box 9 [.v (sv x)]):=hs.ob _ _ (by exact di0)
 have u5:T.ob (S.next+1+1)=some (.box 25 (encS p).cells):=hs.ob _ _ (by exact di0)
 have u6:T.ob (S.next+1+1+1)=some (.box 25 [.v (.int .i64 0),.sl .full [],.sl .full []]):=hs.ob _ _ (by exact di0)
 have hwe:=v.weight_eq
 have hpl:=sPartsLen v
 have n1:=ownOb_len (wSs v.words) (by omega) hO.ln
 have n3:=ownOb_len (wScs v.parts) (by omega) hO.lp
 rw [List.length_map] at n1 n3
 have hwh:=whole_ws v a c ca cc
 rw [ownS] at hwh
 (refine dd5 @u3 @u4 @u5 @u6 @ownS.eq_1 ?_)
 refine DCalls.of_pure hwh ?_
 have hOn:=hO.obn
 have hOp:=hO.obp
 cases hwb:wholeS v with
 | false =>
  (refine dd4 @u3 @u4 @u5 @u6 ?_)
  have e0:withS v x p=v:=by rw [withS,if_pos hwb]
  rw [e0]
  refine fin_owns (v:=v) (zn:=zn) (zp:=zp) hS ?_ (by omega) (by omega) ⟨?_,hO.ln,?_,hO.lp,hO.ab⟩
  ·exact (hst.set hS (Nat.le_refl _) _).set hS (by omega) _
  ·exact di1 @hOn
  ·(first | (simp (disch:=first | decide | omega | (simp only [nx];first | done | omega)) only [go_sem,hOp];first | done | rfl) | rfl)
 | true =>
  have hlen:v.words.length≤v.parts.length:=by
   simp only [wholeS,Bool.and_eq_true,decide_eq_true_eq] at hwb
   exact hwb.2
  (refine dd4 @u3 @u4 @u5 @u6 ?_)
  refine strIndex_w v.words x (by omega) (c:=ca) (zs:=zn) (by exact di1 @hOn) n1 ?_
  by_cases hm:x∈v.words
  ·have hi:=ix_lt hm
   have b1:decide (0≤ixI v.words x)=true:=by rw [ixI,if_pos hm];simp
   have e1:ixI v.words x=(ixN v.words x:Int):=by rw [ixI,if_pos hm]
   have hOp':=hOp
   rw [ownOb_box (by omega)] at hOp'
   have hpl1:(flat (v.parts.map encS)++zp).length=cc * 3:=hO.lp
   (refine dd6 @u3 @u4 @u5 @u6 @b1 @e1 ?_)
   refine ddraw_mk 6 (by kernel_rfl) ?_
   (refine dd5 @u3 @u4 @u5 @u6 @e1 ?_)
   refine dqgo_mk (schCopy_d p hokp (by omega)) ?_
   (refine dd7 @u3 @u4 @u5 @u6 @e1 @hOp' @hpl1 ?_)
   have e0:withS v x p=v.ofFields v.words (v.parts.set (ixN v.words x) p):=by rw [withS,if_neg (by rw [hwb];simp),if_pos hm]
   have e2:ownS v a c ca cc=ownS (v.ofFields v.words (v.parts.set (ixN v.words x) p)) a c ca cc:=by
    simp only [ownS,DSch.ofFields,DSch.kind,DSch.words,DSch.parts,List.length_set]
   rw [e0]
   show DFinT _ S _ (ownS v a c ca cc) _
   rw [e2]
   have hi2:ixN v.words x<(v.parts.map encS).length:=by rw [List.length_map];omega
   refine fin_owns (zn:=zn) (zp:=zp) hS ?_ (by omega) (by omega) ⟨?_,hO.ln,?_,?_,hO.ab⟩
   ·exact ((hst.set hS (Nat.le_refl _) _).set hS (by omega) _).set hS (by omega) _
   ·have:=hO.ab
    exact di1 @hOn
   ·have:=ownOb_box (e:=25) (es:=(v.parts.set (ixN v.words x) p).map encS) (zs:=zp) (c:=cc) (by omega)
    show _=some (ownOb 25 ((v.parts.set (ixN v.words x) p).map encS) zp cc)
    rw [this,splice_flat' hi2 (wScs _) (cells_encS p),← List.map_set]
    exact di0
   ·show (flat ((v.parts.set (ixN v.words x) p).map encS)++zp).length=_
    rw [← hpl1,List.length_append,List.length_append,dflat_length (wScs _),dflat_length (wScs _)]
    simp
  ·have b1:decide (0≤ixI v.words x)=false:=by rw [ixI,if_neg hm];simp
   have e0:withS v x p=v.ofFields (v.words.take (atN v.words x)++[x]++v.words.drop (atN v.words x)) (v.parts.take (atN v.words x)++[p]++v.parts.drop (atN v.words x)):=by rw [withS,if_neg (by rw [hwb];simp),if_neg hm]
   have hgl:gtN v.words x≤v.words.length:=List.findIdx_le_length
   rw [e0]
   clear e0
   (refine dd5 @u3 @u4 @u5 @u6 @b1 ?_)
   refine idxGtS_w v.words x (by omega) (c:=ca) (zs:=zn) (by exact di1 @hOn) n1 (by exact di1 @u4) ?_
   obtain ⟨q,hq⟩:∃ q,atN v.words x=q:=⟨_,rfl⟩
   have hq2:gtN v.words x=q:=hq
   rw [hq]
   rw [hq2] at hgl
   have hac:=hO.ab
   have hat:a<T.next:=hT.lt hOn
   have hct:c<T.next:=hT.lt hOp
   by_cases hg:gtN v.words x<v.words.length
   ·have b2:decide ((q:Int)<0)=false:=by simp
    have e3:gtI v.words x=(q:Int):=by rw [gtI,if_pos hg,hq2]
    (refine dd6 @u3 @u4 @u5 @u6 @b2 @e3 ?_)
    refine ins_str (es:=v.words.map strD) (x:=.v (sv x)) (zs:=zn) (by exact di1 @hOn) hO.ln (wSs _) rfl (by rw [List.length_map];omega) (by rw [List.length_map];omega) (by rw [set_next];omega) (by rw [List.length_map]) fun ca' zn' hn1 hn2=>?_
    (refine dd6 @u3 @u4 @u5 @u6 @e3 @hac ?_)
    refine ddraw_mk 6 (by kernel_rfl) ?_
    (refine dd6 @u3 @u4 @u5 @u6 @e3 @hac ?_)
    refine dqgo_mk (schCopy_d p hokp (by omega)) ?_
    (refine dd6 @u3 @u4 @u5 @u6 @e3 @hac ?_)
    refine ins_sch (es:=v.parts.map encS) (x:=encS p) (zs:=zp) (by (first | (simp (disch:=first | decide | omega | (simp only [nx];first | done | omega)) only [go_sem,hOp];first | done | rfl) | rfl)) hO.lp (wScs _) (cells_encS p) (by rw [List.length_map];omega) (by rw [List.length_map];omega) (by simp (disch:=first | decide | omega | (simp only [nx];first | done | omega)) only [go_sem];first | done | omega) (by rw [List.length_map]) fun cc' zp' hp1 hp2=>?_
    (refine dd6 @u3 @u4 @u5 @u6 @e3 @hac ?_)
    have e2:ownS (v.ofFields (v.words.take q++[x]++v.words.drop q) (v.parts.take q++[p]++v.parts.drop q)) T.next (T.next+1) ca' cc'=.agg [.v (.int .i64 v.kind),.win T.next 0 (v.words.length+1) ca',.win (T.next+1) 0 (v.parts.length+1) cc']:=by
     have l1:(v.words.take q++[x]++v.words.drop q).length=v.words.length+1:=by simp only [List.length_append,List.length_take,List.length_drop,List.length_cons,List.length_nil];omega
     have l2:(v.parts.take q++[p]++v.parts.drop q).length=v.parts.length+1:=by simp only [List.length_append,List.length_take,List.length_drop,List.length_cons,List.length_nil];omega
     simp only [ownS,DSch.ofFields,DSch.kind,DSch.words,DSch.parts] at *
     rw [l1,l2]
    rw [← e2]
    refine fin_owns (zn:=zn') (zp:=zp') hS ?_ (by omega) (by omega) ⟨?_,?_,?_,?_,by omega⟩
    ·exact (((((((hst.set hS (Nat.le_refl _) _).drop hS (by omega)).add hS _).set hS (Nat.le_refl _) _).drop hS (by omega)).add hS _).set hS (Nat.le_refl _) _).set hS (by omega) _
    ·have E1:(v.words.take q++[x]++v.words.drop q).map strD=(v.words.map strD).take q++[.v (sv x)]++(v.words.map strD).drop q:=by simp only [List.map_append,List.map_take,List.map_drop];rfl
     show _=some (ownOb 9 ((v.words.take q++[x]++v.words.drop q).map strD) zn' ca')
     rw [E1]
     exact di0
    ·have E1:(v.words.take q++[x]++v.words.drop q).map strD=(v.words.map strD).take q++[.v (sv x)]++(v.words.map strD).drop q:=by simp only [List.map_append,List.map_take,List.map_drop];rfl
     show (flat ((v.words.take q++[x]++v.words.drop q).map strD)++zn').length=_
     rw [E1]
     exact hn2
    ·have E1:(v.parts.take q++[p]++v.parts.drop q).map encS=(v.parts.map encS).take q++[encS p]++(v.parts.map encS).drop q:=by simp only [List.map_append,List.map_take,List.map_drop];rfl
     show _=some (ownOb 25 ((v.parts.take q++[p]++v.parts.drop q).map encS) zp' cc')
     rw [E1]
     exact di0
    ·have E1:(v.parts.take q++[p]++v.parts.drop q).map encS=(v.parts.map encS).take q++[encS p]++(v.parts.map encS).drop q:=by simp only [List.map_append,List.map_take,List.map_drop];rfl
     show (flat ((v.parts.take q++[p]++v.parts.drop q).map encS)++zp').length=_
     rw [E1]
     exact hp2
   ·have b2:decide (gtI v.words x<0)=true:=by rw [gtI,if_neg hg];decide
    have e3:(v.words.length:Int)=(q:Int):=by rw [hq2] at hg;omega
    (refine dd5 @u3 @u4 @u5 @u6 @b2 ?_)
    rw [e3]
    refine ins_str (es:=v.words.map strD) (x:=.v (sv x)) (zs:=zn) (by exact di1 @hOn) hO.ln (wSs _) rfl (by rw [List.length_map];omega) (by rw [List.length_map];omega) (by rw [set_next];omega) (by rw [List.length_map]) fun ca' zn' hn1 hn2=>?_
    (refine dd6 @u3 @u4 @u5 @u6 @e3 @hac ?_)
    refine ddraw_mk 6 (by kernel_rfl) ?_
    (refine dd6 @u3 @u4 @u5 @u6 @e3 @hac ?_)
    refine dqgo_mk (schCopy_d p hokp (by omega)) ?_
    (refine dd6 @u3 @u4 @u5 @u6 @e3 @hac ?_)
    refine ins_sch (es:=v.parts.map encS) (x:=encS p) (zs:=zp) (by (first | (simp (disch:=first | decide | omega | (simp only [nx];first | done | omega)) only [go_sem,hOp];first | done | rfl) | rfl)) hO.lp (wScs _) (cells_encS p) (by rw [List.length_map];omega) (by rw [List.length_map];omega) (by simp (disch:=first | decide | omega | (simp only [nx];first | done | omega)) only [go_sem];first | done | omega) (by rw [List.length_map]) fun cc' zp' hp1 hp2=>?_
    (refine dd6 @u3 @u4 @u5 @u6 @e3 @hac ?_)
    have e2:ownS (v.ofFields (v.words.take q++[x]++v.words.drop q) (v.parts.take q++[p]++v.parts.drop q)) T.next (T.next+1) ca' cc'=.agg [.v (.int .i64 v.kind),.win T.next 0 (v.words.length+1) ca',.win (T.next+1) 0 (v.parts.length+1) cc']:=by
     have l1:(v.words.take q++[x]++v.words.drop q).length=v.words.length+1:=by simp only [List.length_append,List.length_take,List.length_drop,List.length_cons,List.length_nil];omega
     have l2:(v.parts.take q++[p]++v.parts.drop q).length=v.parts.length+1:=by simp only [List.length_append,List.length_take,List.length_drop,List.length_cons,List.length_nil];omega
     simp only [ownS,DSch.ofFields,DSch.kind,DSch.words,DSch.parts] at *
     rw [l1,l2]
    rw [← e2]
    refine fin_owns (zn:=zn') (zp:=zp') hS ?_ (by omega) (by omega) ⟨?_,?_,?_,?_,by omega⟩
    ·exact (((((((hst.set hS (Nat.le_refl _) _).drop hS (by omega)).add hS _).set hS (Nat.le_refl _) _).drop hS (by omega)).add hS _).set hS (Nat.le_refl _) _).set hS (by omega) _
    ·have E1:(v.words.take q++[x]++v.words.drop q).map strD=(v.words.map strD).take q++[.v (sv x)]++(v.words.map strD).drop q:=by simp only [List.map_append,List.map_take,List.map_drop];rfl
     show _=some (ownOb 9 ((v.words.take q++[x]++v.words.drop q).map strD) zn' ca')
     rw [E1]
     exact di0
    ·have E1:(v.words.take q++[x]++v.words.drop q).map strD=(v.words.map strD).take q++[.v (sv x)]++(v.words.map strD).drop q:=by simp only [List.map_append,List.map_take,List.map_drop];rfl
     show (flat ((v.words.take q++[x]++v.words.drop q).map strD)++zn').length=_
     rw [E1]
     exact hn2
    ·have E1:(v.parts.take q++[p]++v.parts.drop q).map encS=(v.parts.map encS).take q++[encS p]++(v.parts.map encS).drop q:=by simp only [List.map_append,List.map_take,List.map_drop];rfl
     show _=some (ownOb 25 ((v.parts.take q++[p]++v.parts.drop q).map encS) zp' cc')
     rw [E1]
     exact di0
    ·have E1:(v.parts.take q++[p]++v.parts.drop q).map encS=(v.parts.map encS).take q++[encS p]++(v.parts.map encS).drop q:=by simp only [List.map_append,List.map_take,List.map_drop];rfl
     show (flat ((v.parts.take q++[p]++v.parts.drop q).map encS)++zp').length=_
     rw [E1]
     exact hp2
def withoutS (v:DSch) (x:Str):DSch :=
 if wholeS v=true∧x∈v.words then v.ofFields (v.words.take (ixN v.words x)++v.words.drop (ixN v.words x+1)) (v.parts.take (ixN v.words x)++v.parts.drop (ixN v.words x+1)) else v
set_option maxRecDepth 200000 in
set_option maxHeartbeats 8000000 in
theorem withoutS_d (v:DSch) (x:Str) (hokv:okS v) (hv:v.weight≤100000) (hx:x.length≤maxLen):DPure Tryz.prog 107 [encS v,.v (sv x)] (encS (withoutS v x)):=fun S=>by
 refine dcalls_of_dwp mixed Tryz.func107 rfl (fun _ _=>by kernel_rfl) (rs:=[.cell 4 25]) rfl (by kernel_rfl) (fun hS=>?_)
 (refine dd0 ?_)
 refine copy_os v hokv (by omega) fun T a c ca cc zn zp hs hT ha hc hO=>?_
 have hsn:=hs.next
 simp only [add_next] at hsn ha hc
 have hst:S.Sub T:=St.Sub.trans ((((St.Sub.refl S).add hS _).add hS _)) hs
 have u2:T.ob S.next=some (.box 25 (encS v).cells):=hs.ob _ _ (by exact di0)
 have u4:T.ob (S.next+1)=some (.box 25 [.v (.int .i64 0),.sl .full [],.sl .full []]):=hs.ob _ _ (by exact di0)
 have hwe:=v.weight_eq
 have hpl:=sPartsLen v
 have n1:=ownOb_len (wSs v.words) (by omega) hO.ln
 have n3:=ownOb_len (wScs v.parts) (by omega) hO.lp
 rw [List.length_map] at n1 n3
 have hwh:=whole_ws v a c ca cc
 rw [ownS] at hwh
 have hOn:=hO.obn
 have hOp:=hO.obp
 (refine dd3 @u2 @u4 @ownS.eq_1 ?_)
 refine strIndex_w v.words x (by omega) (c:=ca) (zs:=zn) (by exact di1 @hOn) n1 ?_
 (refine dd2 @u2 @u4 ?_)
 refine DCalls.of_pure hwh ?_
 cases hwb:wholeS v with
 | false =>
  (refine dd2 @u2 @u4 ?_)
  have e0:withoutS v x=v:=by rw [withoutS,if_neg (fun h=>by rw [hwb] at h;cases h.1)]
  rw [e0]
  refine fin_owns (v:=v) (zn:=zn) (zp:=zp) hS ?_ (by omega) (by omega) ⟨?_,hO.ln,?_,hO.lp,hO.ab⟩
  ·exact (hst.set hS (Nat.le_refl _) _).set hS (by omega) _
  ·exact di1 @hOn
  ·(first | (simp (disch:=first | decide | omega | (simp only [nx];first | done | omega)) only [go_sem,hOp];first | done | rfl) | rfl)
 | true =>
  have hlen:v.words.length≤v.parts.length:=by
   simp only [wholeS,Bool.and_eq_true,decide_eq_true_eq] at hwb
   exact hwb.2
  by_cases hm:x∈v.words
  ·have hi:=ix_lt hm
   have e1:ixI v.words x=(ixN v.words x:Int):=by rw [ixI,if_pos hm]
   rw [e1]
   generalize hq:ixN v.words x=q at *
   have b1:decide ((0:Int)≤(q:Int))=true:=decide_eq_true (by omega)
   have w1:IntKind.i64.wrap ((q:Int)+1)=((q+1:Nat):Int):=IntWalk.i64_in _ ⟨by omega,by omega⟩
   (refine dd4 @u2 @u4 @b1 @w1 ?_)
   have hac:=hO.ab
   have hat:a<T.next:=hT.lt hOn
   have hct:c<T.next:=hT.lt hOp
   refine del_str (es:=v.words.map strD) (zs:=zn) (by exact di1 @hOn) hO.ln (wSs _) (by rw [List.length_map];omega) (by rw [List.length_map];omega) (by rw [List.length_map]) fun zn' hn2=>?_
   (refine dd4 @u2 @u4 @w1 @hac ?_)
   refine del_sch (es:=v.parts.map encS) (zs:=zp) (by (first | (simp (disch:=first | decide | omega | (simp only [nx];first | done | omega)) only [go_sem,hOp];first | done | rfl) | rfl)) hO.lp (wScs _) (by rw [List.length_map];omega) (by rw [List.length_map];omega) (by rw [List.length_map]) fun zp' hp2=>?_
   (refine dd4 @u2 @u4 @w1 @hac ?_)
   have e0:withoutS v x=v.ofFields (v.words.take q++v.words.drop (q+1)) (v.parts.take q++v.parts.drop (q+1)):=by rw [withoutS,if_pos ⟨hwb,hm⟩,hq]
   rw [e0]
   have e2:ownS (v.ofFields (v.words.take q++v.words.drop (q+1)) (v.parts.take q++v.parts.drop (q+1))) a c ca cc=.agg [.v (.int .i64 v.kind),.win a 0 (v.words.length - 1) ca,.win c 0 (v.parts.length - 1) cc]:=by
    have l1:(v.words.take q++v.words.drop (q+1)).length=v.words.length - 1:=by simp only [List.length_append,List.length_take,List.length_drop];omega
    have l2:(v.parts.take q++v.parts.drop (q+1)).length=v.parts.length - 1:=by simp only [List.length_append,List.length_take,List.length_drop];omega
    simp only [ownS,DSch.ofFields,DSch.kind,DSch.words,DSch.parts] at *
    rw [l1,l2]
   rw [← e2]
   have E1:(v.words.take q++v.words.drop (q+1)).map strD=(v.words.map strD).take q++(v.words.map strD).drop (q+1):=by simp only [List.map_append,List.map_take,List.map_drop]
   have E2:(v.parts.take q++v.parts.drop (q+1)).map encS=(v.parts.map encS).take q++(v.parts.map encS).drop (q+1):=by simp only [List.map_append,List.map_take,List.map_drop]
   refine fin_owns (zn:=zn') (zp:=zp') hS ?_ (by omega) (by omega) ⟨?_,?_,?_,?_,hO.ab⟩
   ·exact (((((hst.set hS (Nat.le_refl _) _).set hS (by omega) _).set hS (Nat.le_refl _) _).set hS (by omega) _).set hS (Nat.le_refl _) _).set hS (by omega) _
   ·show _=some (ownOb 9 ((v.words.take q++v.words.drop (q+1)).map strD) zn' ca)
    rw [E1]
    exact di0
   ·show (flat ((v.words.take q++v.words.drop (q+1)).map strD)++zn').length=_
    rw [E1]
    exact hn2
   ·show _=some (ownOb 25 ((v.parts.take q++v.parts.drop (q+1)).map encS) zp' cc)
    rw [E2]
    exact di0
   ·show (flat ((v.parts.take q++v.parts.drop (q+1)).map encS)++zp').length=_
    rw [E2]
    exact hp2
  ·have b1:decide (0≤ixI v.words x)=false:=by rw [ixI,if_neg hm];simp
   (refine dd3 @u2 @u4 @b1 ?_)
   have e0:withoutS v x=v:=by rw [withoutS,if_neg (fun h=>hm h.2)]
   rw [e0]
   refine fin_owns (v:=v) (zn:=zn) (zp:=zp) hS ?_ (by omega) (by omega) ⟨?_,hO.ln,?_,hO.lp,hO.ab⟩
   ·exact (hst.set hS (Nat.le_refl _) _).set hS (by omega) _
   ·exact di1 @hOn
   ·(first | (simp (disch:=first | decide | omega | (simp only [nx];first | done | omega)) only [go_sem,hOp];first | done | rfl) | rfl)
end Go.Proofs.YtogbklnkpjjkoaaGreatDoor
