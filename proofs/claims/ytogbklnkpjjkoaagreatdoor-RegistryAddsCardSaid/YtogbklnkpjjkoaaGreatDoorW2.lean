/- Texts of a proof, part 2. Conditions: none. -/
import Derived.Test.YtogbklnkpjjkoaaGreatDoorW1
import Derived.Deep.MidRow
set_option linter.unusedVariables false
set_option linter.unusedSimpArgs false
namespace Go.Proofs.YtogbklnkpjjkoaaGreatDoor
open Go.RowKit

theorem wpList_load_blkG {P:Program} {ops:Array Oper} {rest:List Oper} {o:Oper} {a:Act} {w:World} {Q:Exit→Act→World→Prop} (hw:Region.wanted o (yielded ops a.tmps)=true)
  (ty:TypeId) (x:Operand) (ho:o.op=.load ty x) (g:Nat) (hx:a.eval x=.pointer (some ⟨g,0,none⟩)) (t:TypeId) (cs:List Value) (hb:Blk w g t cs.toArray) (d:TypeDesc)
  (hu:P.underlying ty=some d) (hd:d.isRow=true) (hi:(P.info? ty).map (·.size)=some cs.length) (h:wpList P ops Q rest (a.put o.dst (.agg cs.toArray)) w):wpList P ops Q (o::rest) a w :=
 wpList_step fun K hK=>by
  simp only [hw,if_true]
  exact wp_load_mid ty x ho g 0 hx cs d (fun j v hv=>by rw [Nat.zero_add,hb.cell];simpa using hv) hu hd hi (hK _ _ h)

theorem all_getD (l:List DSch) (f:DSch→Bool):((List.range l.length).any fun i => !f (l.getD i default)) = !l.all f:=by
 rw [Bool.eq_iff_iff,List.any_eq_true]
 simp only [Bool.not_eq_true',List.all_eq_false,List.mem_range]
 constructor
 ·rintro ⟨i,hi,h⟩
  exact ⟨l.getD i default,by simp [List.getD,hi],by rw [h];simp⟩
 ·rintro ⟨x,hx,h⟩
  obtain ⟨i,hi,rfl⟩:=List.getElem_of_mem hx
  exact ⟨i,hi,by simpa [List.getD,hi] using h⟩

set_option maxHeartbeats 2000000 in
set_option maxRecDepth 20000 in
theorem schRight_calls (k:Nat):∀ (s:DSch) (cs:List Value) (w:World),k≤1000→IsSch w (·<w.heap.size) s cs →
  Calls Tryz.prog 58 #[.agg cs.toArray,.int .i64 k] w (Gives (.bool (rightS k s)) w):=by
 induction k with
 | zero =>
  intro s cs w hk hs
  go_enter Tryz.func58,Tryz.ntmps58
  go_wp2
  go_ret
  exact ⟨ret_eq rfl,((Below.refl _ _).alloc (Nat.le_refl _) _).alloc (by simp) _⟩
 | succ k ih =>
  intro s cs w hk hs
  obtain ⟨Ap,cp,C,hp1,hpc,hpm,hP,hA⟩:=hs.partsF
  have HW0:=hide (((Below.refl w.heap.size w).alloc (Nat.le_refl _) (.cells cs.toArray 25)).alloc (by simp) (.cells #[.int .i64 ((k:Int)+1)] 3))
  have HX:=hide ((Blk.new w 25 cs.toArray).alloc (.cells #[.int .i64 ((k:Int)+1)] 3))
  have HY:=hide (Blk.new2 w (.cells cs.toArray 25) 3 #[.int .i64 ((k:Int)+1)])
  have HL:=hide (show (Tryz.prog.info? 25).map (·.size)=some cs.length by rw [hs.length];kernel_rfl)
  have HCP:=hide (fun (W:World) (hW:Below w.heap.size w W)=>schPlain_calls s cs W (hs.more hW))
  have HK1:∀ (W:World) (p:DSch) (D:List Value) (g:Nat),IsSch W (·<W.heap.size) p D→Blk W g 3 #[.int .i64 ((k:Int)+1)]→Calls Tryz.prog 85 #[.agg D.toArray,.pointer (some ⟨g,0,none⟩)] W (Gives (.bool (!rightS k p)) W):=by
   intro W p D g hp hg
   have hgl:=hg.lt
   have B0:=(Below.refl W.heap.size W).alloc (Nat.le_refl _) (.cells D.toArray 25)
   have c0:(W.alloc (.cells D.toArray 25)).cell? ⟨g,0,none⟩=some (.int .i64 ((k:Int)+1)):=(hg.alloc _).cell 0
   have HI:=hide (ih p D _ (by omega) (hp.more B0))
   have HB:=hide (Blk.new W 25 D.toArray)
   have HB0:=hide B0
   have HL:=hide (show (Tryz.prog.info? 25).map (·.size)=some D.toArray.size by rw [List.size_toArray,hp.length];kernel_rfl)
   clear hp hg B0 ih hs hP hA
   go_enter Tryz.func85,Tryz.ntmps85
   go_wp2_with (first | (refine wpList_load_blk rfl 25 _ rfl _ rfl _ _ HB.out _ rfl rfl HL.out ?_) | fail)
   refine HI.out.mono ?_
   rintro e w1 ⟨rfl,hb1⟩
   have HB1:=hide (HB0.out.trans (hb1.mono HB0.out.size))
   clear hb1
   go_wp2
   go_ret
   exact ⟨ret_eq rfl,HB1.out⟩
  have HCC:Hid (∀ (W:World) (hW:Below w.heap.size w W) (hg:Blk W (w.heap.size+1) 3 #[.int .i64 ((k:Int)+1)]),Calls Tryz.prog 84 #[.slice Ap s.parts.length cp,.func (.func 85) #[] #[.pointer (some ⟨w.heap.size+1,0,none⟩)]] W (Gives (.bool (!s.parts.all (rightS k))) W)):=hide fun W hW hg=>by
   have:=schG_contains 85 (.pointer (some ⟨w.heap.size+1,0,none⟩)) (fun _ _=>by kernel_rfl) s.parts.length Ap cp (fun i=>.agg (C i).toArray) (fun i => !rightS k (s.parts.getD i default)) W (by omega)
    (fun h0=>by
     obtain ⟨x,o,e,hx,hc⟩:=hA h0
     exact ⟨x,o,e,Nat.lt_of_lt_of_le hx hW.size,fun i hi=>⟨C i,rfl,(hc i hi).1,fun q v hv=>(hW.cell (p:=⟨x,o+i * 3+q,none⟩) hx).trans ((hc i hi).2 q v hv)⟩⟩)
    (fun i hi W2 hW2=>by
     have e1:s.parts.getD i default=s.parts[i]:=by simp [List.getD,hi]
     rw [e1]
     exact HK1 W2 _ _ _ ((hP i _ (List.getElem?_eq_getElem hi)).more (hW.trans (hW2.mono hW.size))) (hg.below hW2 hg.lt))
   rwa [all_getD] at this
  have HSP:Hid (rightS (k+1) s=(plainS s && s.parts.all (rightS k))):=hide rfl
  clear ih hs hP hA HK1
  cases hpl:plainS s
  all_goals
   rw [hpl] at HCP HSP
   clear hpl
   go_enter Tryz.func58,Tryz.ntmps58
   go_wp2_with (first | (refine wpList_load_blkG (by rfl) 25 _ rfl _ rfl _ cs HX.out _ rfl rfl HL.out ?_) | fail)
   refine (HCP.out _ HW0.out).mono ?_
   rintro e w1 ⟨rfl,hb1⟩
   have HB1:=hide (HW0.out.trans (hb1.mono HW0.out.size))
   have HX1:=hide (HX.out.below hb1 HX.out.lt)
   have HY1:=hide (HY.out.below hb1 HY.out.lt)
   clear hb1
  ·go_wp2
   go_ret
   exact ⟨ret_eq (by rw [HSP.out];rfl),HB1.out⟩
  ·rw [Bool.true_and] at HSP
   have c2:w1.cell? ⟨w.heap.size,2,none⟩=some (.slice Ap s.parts.length cp):=by rw [HX1.out.cell];simpa using hp1
   go_wp2_with fail
   refine (HCC.out _ HB1.out HY1.out).mono ?_
   rintro e w2 ⟨rfl,hb2⟩
   have HB2:=hide (HB1.out.trans (hb2.mono HB1.out.size))
   clear hb2
   generalize s.parts.all (rightS k)=x at *
   go_wp2
   go_ret
   exact ⟨ret_eq (by rw [HSP.out];first | rfl | (simp;done) | (simp;omega) | (simp;rw [Bool.eq_iff_iff];simp;omega) | (rw [Bool.eq_iff_iff];simp;omega) | (simp;rw [Bool.eq_iff_iff];simp)),HB2.out⟩

set_option maxHeartbeats 400000 in
set_option maxRecDepth 20000 in
theorem schRightP_calls (s:DSch) (cs:List Value) (w:World) (hs:IsSch w (·<w.heap.size) s cs) :
  Calls Tryz.prog 47 #[.agg cs.toArray] w (Gives (.bool (rightS 5 s)) w):=by
 have HW0:=hide ((Below.refl w.heap.size w).alloc (Nat.le_refl _) (.cells cs.toArray 25))
 have HX:=hide (Blk.new w 25 cs.toArray)
 have HL:=hide (show (Tryz.prog.info? 25).map (·.size)=some cs.toArray.size by rw [List.size_toArray,hs.length];kernel_rfl)
 have HC:=hide (schRight_calls 5 s cs _ (by omega) (hs.more HW0.out))
 clear hs
 go_enter Tryz.func47,Tryz.ntmps47
 go_wp2_with (first | (refine wpList_load_blk rfl 25 _ rfl _ rfl _ _ HX.out _ rfl rfl HL.out ?_) | fail)
 refine HC.out.mono ?_
 rintro e w1 ⟨rfl,hb1⟩
 have HB1:=hide (HW0.out.trans (hb1.mono HW0.out.size))
 clear hb1
 go_wp2
 go_ret
 exact ⟨ret_eq rfl,HB1.out⟩

set_option maxHeartbeats 1000000 in
set_option maxRecDepth 20000 in
theorem valG_index (K:Nat) (cap0:Value) (hK:∀ (x:Array Value) W,(callFunc K x).run Tryz.prog W=.ok (.enter K x) W) (n:Nat) (A:Option Addr) (c:Nat) (V:Nat→Value) (p:Nat→Bool) (w:World) (hn:n≤140737488351232)
  (hA:0<n→∃ b o,A=some ⟨b,o,none⟩∧b<w.heap.size∧∀ i,i<n→∃ cs:List Value,V i=.agg cs.toArray∧cs.length=6∧w.rangeAt b (o+i * 6) cs)
  (hcall:∀ i,i<n→∀ W,Below w.heap.size w W→Calls Tryz.prog K #[V i,cap0] W (Gives (.bool (p i)) W)) :
  Calls Tryz.prog 176 #[.slice A n c,.func (.func K) #[] #[cap0]] w (IdxPost p n w):=by
 have HA:=hide hA
 have HC:=hide hcall
 clear hA hcall
 go_enter Tryz.func176,Tryz.ntmps176
 go_wp2_with fail
 go_loopw [8] (fun i wr=>∃ (k:Nat),i=.int .i64 k∧k≤n∧(∀ r,r<k→p r=false)∧Below w.heap.size w wr) (fun i _=>n - (intOf i).toNat)
 case atStart=>exact ⟨0,rfl,Nat.zero_le _,fun r hr=>by omega,Below.refl _ _⟩
 case round =>
  obtain ⟨k,rfl,hk,hno,hw⟩:=hrel
  obtain ⟨wo,rfl⟩:∃ wo:World,wo=wr:=⟨_,rfl⟩
  have GW:=hide hw
  have GN:=hide hno
  clear hw hno
  by_cases hlt:k<n
  ·obtain ⟨b,o,rfl,hb,hV⟩:=HA.out (by omega)
   have hcall':=HC.out k hlt
   obtain ⟨cs,hv,hc3,hr⟩:=hV k hlt
   have HRW:Hid (wo.rangeAt b (o+k * 6) cs):=hide fun q v hv=>(GW.out.cell (p:=⟨b,o+k * 6+q,none⟩) hb).trans (hr q v hv)
   have HC3:=hide hc3
   clear hr hc3
   cases hx:p k
   all_goals
    have HX:=hide hx
    rw [hx] at hcall'
    clear hx hV
    rw [hv] at hcall'

    have HCL:=hide hcall'
    clear hcall'
    go_wp2_with (first | (refine wpList_load_mid rfl 43 _ rfl b (o+k * 6) rfl cs _ HRW.out rfl rfl (by rw [HC3.out];kernel_rfl) ?_) | fail)
    refine (HCL.out _ GW.out).mono ?_
    rintro e w1 ⟨rfl,hb1⟩
    have KW:=hide (GW.out.trans (hb1.mono GW.out.size))
    clear hb1
   ·go_wp2_with fail
    exact ⟨⟨k+1,by go_num,by omega,fun r hr=>by
     by_cases e:r=k
     ·rw [e];exact HX.out
     ·exact GN.out r (by omega),KW.out⟩,by simp [intOf];omega⟩
   ·go_wp2
    go_ret
    exact ⟨.inl ⟨k,hlt,rfl,HX.out,GN.out⟩,KW.out⟩
  ·obtain rfl:k=n:=by omega
   go_wp2
   go_ret
   exact ⟨.inr ⟨rfl,GN.out⟩,GW.out⟩

set_option maxHeartbeats 400000 in
theorem valG_contains (K:Nat) (cap0:Value) (hK:∀ (x:Array Value) W,(callFunc K x).run Tryz.prog W=.ok (.enter K x) W) (n:Nat) (A:Option Addr) (c:Nat) (V:Nat→Value) (p:Nat→Bool) (w:World) (hn:n≤140737488351232)
  (hA:0<n→∃ b o,A=some ⟨b,o,none⟩∧b<w.heap.size∧∀ i,i<n→∃ cs:List Value,V i=.agg cs.toArray∧cs.length=6∧w.rangeAt b (o+i * 6) cs)
  (hcall:∀ i,i<n→∀ W,Below w.heap.size w W→Calls Tryz.prog K #[V i,cap0] W (Gives (.bool (p i)) W)) :
  Calls Tryz.prog 169 #[.slice A n c,.func (.func K) #[] #[cap0]] w (Gives (.bool ((List.range n).any p)) w):=by
 have HI:=hide (valG_index K cap0 hK n A c V p w hn hA hcall)
 clear hA hcall hK
 go_enter Tryz.func169,Tryz.ntmps169
 go_wp2_with fail
 refine HI.out.mono ?_
 rintro e w1 ⟨hi,hb⟩
 have HB:=hide hb
 clear hb
 rcases hi with ⟨k,hk,rfl,hp,hno⟩ | ⟨rfl,hno⟩
 ·have hx:(List.range n).any p=true:=List.any_eq_true.2 ⟨k,List.mem_range.2 hk,hp⟩
  have HX:=hide hx
  clear hx hp hno
  go_wp2
  go_ret
  exact ⟨ret_eq (by rw [HX.out];rfl),HB.out⟩
 ·have hx:(List.range n).any p=false:=List.any_eq_false.2 fun r hr=>by simp [hno r (List.mem_range.1 hr)]
  have HX:=hide hx
  clear hx hno
  go_wp2
  go_ret
  exact ⟨ret_eq (by rw [HX.out];rfl),HB.out⟩


instance : Inhabited DVal:=⟨.mk 0 0 [] [] [] []⟩
def rightV:Nat→DVal→Bool
 | 0,_=>false
 | k+1,s=>plainV s && s.parts.all (rightV k)

theorem all_getDV (l:List DVal) (f:DVal→Bool):((List.range l.length).any fun i => !f (l.getD i default)) = !l.all f:=by
 rw [Bool.eq_iff_iff,List.any_eq_true]
 simp only [Bool.not_eq_true',List.all_eq_false,List.mem_range]
 constructor
 ·rintro ⟨i,hi,h⟩
  exact ⟨l.getD i default,by simp [List.getD,hi],by rw [h];simp⟩
 ·rintro ⟨x,hx,h⟩
  obtain ⟨i,hi,rfl⟩:=List.getElem_of_mem hx
  exact ⟨i,hi,by simpa [List.getD,hi] using h⟩

set_option maxHeartbeats 2000000 in
set_option maxRecDepth 20000 in
theorem valRight_calls (k:Nat):∀ (s:DVal) (cs:List Value) (w:World),k≤1000→IsVal w (·<w.heap.size) s cs →
  Calls Tryz.prog 163 #[.agg cs.toArray,.int .i64 k] w (Gives (.bool (rightV k s)) w):=by
 induction k with
 | zero =>
  intro s cs w hk hs
  go_enter Tryz.func163,Tryz.ntmps163
  go_wp2
  go_ret
  exact ⟨ret_eq rfl,((Below.refl _ _).alloc (Nat.le_refl _) _).alloc (by simp) _⟩
 | succ k ih =>
  intro s cs w hk hs
  obtain ⟨Ap,cp,C,hp1,hpc,hpm,hP,hA⟩:=hs.partsF
  have HW0:=hide (((Below.refl w.heap.size w).alloc (Nat.le_refl _) (.cells cs.toArray 43)).alloc (by simp) (.cells #[.int .i64 ((k:Int)+1)] 3))
  have HX:=hide ((Blk.new w 43 cs.toArray).alloc (.cells #[.int .i64 ((k:Int)+1)] 3))
  have HY:=hide (Blk.new2 w (.cells cs.toArray 43) 3 #[.int .i64 ((k:Int)+1)])
  have HL:=hide (show (Tryz.prog.info? 43).map (·.size)=some cs.length by rw [hs.length];kernel_rfl)
  have HCP:=hide (fun (W:World) (hW:Below w.heap.size w W)=>valPlain_calls s cs W (hs.more hW))
  have HK1:∀ (W:World) (p:DVal) (D:List Value) (g:Nat),IsVal W (·<W.heap.size) p D→Blk W g 3 #[.int .i64 ((k:Int)+1)]→Calls Tryz.prog 170 #[.agg D.toArray,.pointer (some ⟨g,0,none⟩)] W (Gives (.bool (!rightV k p)) W):=by
   intro W p D g hp hg
   have hgl:=hg.lt
   have B0:=(Below.refl W.heap.size W).alloc (Nat.le_refl _) (.cells D.toArray 43)
   have c0:(W.alloc (.cells D.toArray 43)).cell? ⟨g,0,none⟩=some (.int .i64 ((k:Int)+1)):=(hg.alloc _).cell 0
   have HI:=hide (ih p D _ (by omega) (hp.more B0))
   have HB:=hide (Blk.new W 43 D.toArray)
   have HB0:=hide B0
   have HL:=hide (show (Tryz.prog.info? 43).map (·.size)=some D.toArray.size by rw [List.size_toArray,hp.length];kernel_rfl)
   clear hp hg B0 ih hs hP hA
   go_enter Tryz.func170,Tryz.ntmps170
   go_wp2_with (first | (refine wpList_load_blk rfl 43 _ rfl _ rfl _ _ HB.out _ rfl rfl HL.out ?_) | fail)
   refine HI.out.mono ?_
   rintro e w1 ⟨rfl,hb1⟩
   have HB1:=hide (HB0.out.trans (hb1.mono HB0.out.size))
   clear hb1
   go_wp2
   go_ret
   exact ⟨ret_eq rfl,HB1.out⟩
  have HCC:Hid (∀ (W:World) (hW:Below w.heap.size w W) (hg:Blk W (w.heap.size+1) 3 #[.int .i64 ((k:Int)+1)]),Calls Tryz.prog 169 #[.slice Ap s.parts.length cp,.func (.func 170) #[] #[.pointer (some ⟨w.heap.size+1,0,none⟩)]] W (Gives (.bool (!s.parts.all (rightV k))) W)):=hide fun W hW hg=>by
   have:=valG_contains 170 (.pointer (some ⟨w.heap.size+1,0,none⟩)) (fun _ _=>by kernel_rfl) s.parts.length Ap cp (fun i=>.agg (C i).toArray) (fun i => !rightV k (s.parts.getD i default)) W (by omega)
    (fun h0=>by
     obtain ⟨x,o,e,hx,hc⟩:=hA h0
     exact ⟨x,o,e,Nat.lt_of_lt_of_le hx hW.size,fun i hi=>⟨C i,rfl,(hc i hi).1,fun q v hv=>(hW.cell (p:=⟨x,o+i * 6+q,none⟩) hx).trans ((hc i hi).2 q v hv)⟩⟩)
    (fun i hi W2 hW2=>by
     have e1:s.parts.getD i default=s.parts[i]:=by simp [List.getD,hi]
     rw [e1]
     exact HK1 W2 _ _ _ ((hP i _ (List.getElem?_eq_getElem hi)).more (hW.trans (hW2.mono hW.size))) (hg.below hW2 hg.lt))
   rwa [all_getDV] at this
  have HSP:Hid (rightV (k+1) s=(plainV s && s.parts.all (rightV k))):=hide rfl
  clear ih hs hP hA HK1
  cases hpl:plainV s
  all_goals
   rw [hpl] at HCP HSP
   clear hpl
   go_enter Tryz.func163,Tryz.ntmps163
   go_wp2_with (first | (refine wpList_load_blkG (by rfl) 43 _ rfl _ rfl _ cs HX.out _ rfl rfl HL.out ?_) | fail)
   refine (HCP.out _ HW0.out).mono ?_
   rintro e w1 ⟨rfl,hb1⟩
   have HB1:=hide (HW0.out.trans (hb1.mono HW0.out.size))
   have HX1:=hide (HX.out.below hb1 HX.out.lt)
   have HY1:=hide (HY.out.below hb1 HY.out.lt)
   clear hb1
  ·go_wp2
   go_ret
   exact ⟨ret_eq (by rw [HSP.out];rfl),HB1.out⟩
  ·rw [Bool.true_and] at HSP
   have c2:w1.cell? ⟨w.heap.size,5,none⟩=some (.slice Ap s.parts.length cp):=by rw [HX1.out.cell];simpa using hp1
   go_wp2_with fail
   refine (HCC.out _ HB1.out HY1.out).mono ?_
   rintro e w2 ⟨rfl,hb2⟩
   have HB2:=hide (HB1.out.trans (hb2.mono HB1.out.size))
   clear hb2
   generalize s.parts.all (rightV k)=x at *
   go_wp2
   go_ret
   exact ⟨ret_eq (by rw [HSP.out];first | rfl | (simp;done) | (simp;omega) | (simp;rw [Bool.eq_iff_iff];simp;omega) | (rw [Bool.eq_iff_iff];simp;omega) | (simp;rw [Bool.eq_iff_iff];simp)),HB2.out⟩

set_option maxHeartbeats 400000 in
set_option maxRecDepth 20000 in
theorem valRightP_calls (s:DVal) (cs:List Value) (w:World) (hs:IsVal w (·<w.heap.size) s cs) :
  Calls Tryz.prog 143 #[.agg cs.toArray] w (Gives (.bool (rightV 5 s)) w):=by
 have HW0:=hide ((Below.refl w.heap.size w).alloc (Nat.le_refl _) (.cells cs.toArray 43))
 have HX:=hide (Blk.new w 43 cs.toArray)
 have HL:=hide (show (Tryz.prog.info? 43).map (·.size)=some cs.toArray.size by rw [List.size_toArray,hs.length];kernel_rfl)
 have HC:=hide (valRight_calls 5 s cs _ (by omega) (hs.more HW0.out))
 clear hs
 go_enter Tryz.func143,Tryz.ntmps143
 go_wp2_with (first | (refine wpList_load_blk rfl 43 _ rfl _ rfl _ _ HX.out _ rfl rfl HL.out ?_) | fail)
 refine HC.out.mono ?_
 rintro e w1 ⟨rfl,hb1⟩
 have HB1:=hide (HW0.out.trans (hb1.mono HW0.out.size))
 clear hb1
 go_wp2
 go_ret
 exact ⟨ret_eq rfl,HB1.out⟩

set_option maxHeartbeats 1000000 in
set_option maxRecDepth 20000 in
theorem refValDepth_calls (k:Nat):∀ (s:DVal) (cs:List Value) (w:World),s.depth≤k→k≤1000000→IsVal w (·<w.heap.size) s cs →
  Calls Tryz.prog 121 #[.agg cs.toArray] w (Gives (.int .i64 s.depth) w):=by
 induction k with
 | zero=>intro s cs w h;have:=s.depth_pos;omega
 | succ k ih =>
  intro s cs w hk hkk hs
  obtain ⟨Ap,cp,hc,hcp,hmp,hA⟩:=hs.parts_
  have HI:=hide ih
  have HA:=hide hA
  have HS:=hide hs
  have HD:=hide s.depth_eq
  have hdp:=s.depth_eq
  have HB0:=hide (Blk.new w 43 cs.toArray)
  have HW0:=hide ((Below.refl w.heap.size w).alloc (Nat.le_refl _) (.cells cs.toArray 43))
  have HP:=hide (fun p (h:p∈s.parts)=>DVal.depth_part h)
  clear ih hA hs
  go_enter Tryz.func121,Tryz.ntmps121
  go_wp2_with fail
  go_loopw [3,4] (fun nv iv wr=>∃ (i:Nat),iv=.int .i64 i∧i≤s.parts.length∧nv=.int .i64 ((DVal.depths (s.parts.take i):Nat)+1:Int)∧Blk wr w.heap.size 43 cs.toArray∧Below w.heap.size w wr) (fun _ iv _=>s.parts.length - (intOf iv).toNat)
  case atStart=>exact ⟨0,rfl,Nat.zero_le _,rfl,HB0.out,HW0.out⟩
  case round =>
   obtain ⟨i,rfl,hi,rfl,hblk,hw⟩:=hrel
   obtain ⟨wo,rfl⟩:∃ wo:World,wo=wr:=⟨_,rfl⟩
   have GW:=hide hw
   have GB:=hide hblk
   clear hw hblk HB0 HW0
   have hle:=DVal.depths_le s.parts i
   have cf:wo.cell? ⟨w.heap.size,5,none⟩=cs[5]? := by have:=GB.out.cell 5;simpa using this
   rw [hc] at cf
   by_cases hlt:i<s.parts.length
   ·obtain ⟨b,o,rfl,hb,hC⟩:=HA.out (by omega)
    obtain ⟨C,hl3,hr,hpi⟩:=hC i _ (List.getElem?_eq_getElem hlt)
    have HRW:Hid (wo.rangeAt b (o+i * 6) C):=hide fun q v hv=>(GW.out.cell (p:=⟨b,o+i * 6+q,none⟩) hb).trans (hr q v hv)
    have HL3:=hide hl3
    have HPI:=hide hpi
    have HT:=hide (DVal.depths_take s.parts i hlt)
    have hpd:=HP.out _ (List.getElem_mem hlt)
    clear hC hl3 hr hpi
    generalize s.parts[i]=p at *
    generalize DVal.depths (s.parts.take i)=m at *
    go_wp2_with (first
     | (refine wpList_load_mid rfl 43 _ rfl b (o+i * 6) rfl C _ HRW.out rfl rfl (by rw [HL3.out];kernel_rfl) ?_)
     | fail)
    refine (HI.out p C _ (by omega) (by omega) (HPI.out.more GW.out)).mono ?_
    rintro e w1 ⟨rfl,hb1⟩
    have KB:=hide (GB.out.below hb1 GB.out.lt)
    have KW:=hide (GW.out.trans (hb1.mono GW.out.size))
    clear hb1
    by_cases hgt:m<p.depth
    ·go_wp2_with fail
     exact ⟨⟨i+1,by go_num,by omega,by rw [HT.out,Nat.max_eq_right (by omega)],KB.out,KW.out⟩,by simp [intOf];omega⟩
    ·go_wp2_with fail
     exact ⟨⟨i+1,by go_num,by omega,by rw [HT.out,Nat.max_eq_left (by omega)],KB.out,KW.out⟩,by simp [intOf];omega⟩
   ·have HE:Hid (((DVal.depths (s.parts.take i):Nat):Int)+1=(s.depth:Int)):=hide (by rw [List.take_of_length_le (by omega),HD.out];rfl)
    generalize DVal.depths (s.parts.take i)=m at *
    go_wp2
    go_ret
    exact ⟨ret_eq (by rw [← HE.out];rfl),GW.out⟩

end Go.Proofs.YtogbklnkpjjkoaaGreatDoor
namespace Go.Proofs.YtogbklnkpjjkoaaGreatDoor
open Go.RowKit Go.ChangeShapes Go.WideShapes Go.ChangeAt

def roomV:Nat→DVal→Int→Int
 | 0,_,_=>-1
 | k+1,s,n =>
  if 400<s.s.length then -1
  else s.parts.foldl (fun m p=>if 0≤m then roomV k p m else m) (n - 1 - s.names.length - s.ids.length)
theorem foldRoomV_neg (k:Nat):∀ (l:List DVal) (m:Int),m<0→l.foldl (fun m p=>if 0≤m then roomV k p m else m) m=m
 | [],_,_=>rfl
 | p::l,m,h=>by rw [List.foldl_cons,if_neg (by omega)];exact foldRoomV_neg k l m h
def FineV:Nat→DVal→Prop
 | 0,_=>False
 | k+1,s=>s.s.length≤400∧∀ p∈s.parts,FineV k p
theorem roomV_spec:∀ (k:Nat) (s:DVal) (n:Int),0≤roomV k s n→roomV k s n=n - s.weight∧FineV k s
 | 0,s,n,h=>by simp [roomV] at h
 | k+1,s,n,h=>by
  have hwt:=DVal.weight_eq s
  unfold roomV at h ⊢
  by_cases hb:400<s.s.length
  ·rw [if_pos hb] at h;omega
  ·rw [if_neg hb] at h ⊢
   have hw:s.s.length≤400:=by omega
   have key:∀ (l:List DVal) (m:Int),0≤l.foldl (fun m p=>if 0≤m then roomV k p m else m) m →
     l.foldl (fun m p=>if 0≤m then roomV k p m else m) m=m - DVal.weights l∧∀ p∈l,FineV k p:=by
    intro l
    induction l with
    | nil=>intro m _;exact ⟨by simp [DVal.weights],fun p hp=>by cases hp⟩
    | cons p l ih =>
     intro m hm
     rw [List.foldl_cons] at hm ⊢
     have h0:0≤m:=by
      rcases Int.lt_or_le m 0 with hx | hx
      ·rw [if_neg (by omega),foldRoomV_neg k l m hx] at hm;exact hm
      ·exact hx
     rw [if_pos h0] at hm ⊢
     have h1:0≤roomV k p m:=by
      rcases Int.lt_or_le (roomV k p m) 0 with hx | hx
      ·rw [foldRoomV_neg k l _ hx] at hm;exact hm
      ·exact hx
     obtain ⟨e1,f1⟩:=roomV_spec k p m h1
     obtain ⟨e2,f2⟩:=ih _ hm
     refine ⟨by rw [e2,e1];simp only [DVal.weights];omega,fun q hq=>?_⟩
     rcases List.mem_cons.1 hq with rfl | hq
     ·exact f1
     ·exact f2 q hq
   obtain ⟨e,f⟩:=key s.parts _ h
   refine ⟨by rw [e];omega,?_⟩
   exact ⟨hw,f⟩
theorem roomV_le:∀ (k:Nat) (s:DVal) (n:Int),-1≤n→roomV k s n≤n∧(roomV k s n≤-1∨0≤roomV k s n)
 | 0,s,n,h=>by simp [roomV];omega
 | k+1,s,n,h=>by
  unfold roomV
  split
  ·omega
  ·have key:∀ (l:List DVal) (m:Int),l.foldl (fun m p=>if 0≤m then roomV k p m else m) m≤m:=by
    intro l
    induction l with
    | nil=>intro m;exact Int.le_refl _
    | cons p l ih =>
     intro m
     rw [List.foldl_cons]
     refine Int.le_trans (ih _) ?_
     split
     ·exact (roomV_le k p m (by omega)).1
     ·exact Int.le_refl _
   have:=key s.parts (n - 1 - s.names.length - s.ids.length)
   omega
end Go.Proofs.YtogbklnkpjjkoaaGreatDoor
namespace Go.Proofs.YtogbklnkpjjkoaaGreatDoor
open Go.RowKit

theorem info_valB:(Tryz.prog.info? 43).map (·.size)=some 6:=by kernel_rfl

set_option maxHeartbeats 1000000 in
set_option maxRecDepth 20000 in
theorem roomV_calls (k:Nat):∀ (s:DVal) (n:Int) (cs:List Value) (w:World),IsVal w (·<w.heap.size) s cs→k≤1000→0≤n→n≤1000 →
  Calls Tryz.prog 82 #[.agg cs.toArray,.int .i64 n,.int .i64 k] w (fun e w'=>-1000000000000000≤roomV k s n∧Gives (.int .i64 (roomV k s n)) w e w'):=by
 induction k with
 | zero =>
  intro s n cs w hs hk hn hn2
  obtain ⟨An,cn,hw1,_,_,_,hwm⟩:=hs.names_
  obtain ⟨Ai,ci,hi1,_,_,_,him⟩:=hs.ids_
  clear hs
  go_enter Tryz.func82,Tryz.ntmps82
  go_wp2
  go_ret
  exact ⟨by simp [roomV],ret_eq rfl,(Below.refl _ _).alloc (Nat.le_refl _) _⟩
 | succ k ih =>
  intro s n cs w hs hk hn hn2
  have HI:=hide ih
  clear ih
  obtain ⟨hs1,hsl⟩:=hs.s_
  obtain ⟨An,cn,hw1,_,_,_,hwm⟩:=hs.names_
  obtain ⟨Ai,ci,hi1,_,_,_,him⟩:=hs.ids_
  obtain ⟨Ap,cp,C,hp1,hpc,hpm,hP,hA⟩:=hs.partsF
  have HA:=hide hA
  have HP:=hide hP
  have HSP:Hid (roomV (k+1) s n=if 400<s.s.length then -1 else s.parts.foldl (fun m p=>if 0≤m then roomV k p m else m) (n - 1 - s.names.length - s.ids.length)):=hide rfl
  have HK0:=hide (Blk.new w 43 cs.toArray)
  have HW0:=hide ((Below.refl w.heap.size w).alloc (Nat.le_refl _) (.cells cs.toArray 43))
  clear hA hP hs
  have hk1:(((k+1:Nat):Int) == 0)=false:=by simp;omega
  have hk2:(((k:Int)+1) == 0)=false:=by simp;omega
  have hlow:-1000000000000000≤n - 1 - (s.names.length:Int) - (s.ids.length:Int):=by omega
  have hstart:n - 1 - (s.names.length:Int) - (s.ids.length:Int)≤1000:=by omega
  by_cases hbig:400<s.s.length
  ·have HB:=hide hbig
   generalize s.s=x at *
   go_enter Tryz.func82,Tryz.ntmps82
   go_wp2
   go_ret
   exact ⟨by rw [HSP.out,if_pos HB.out];omega,ret_eq (by rw [HSP.out,if_pos HB.out];rfl),HW0.out⟩
  ·have HE:Hid (roomV (k+1) s n=s.parts.foldl (fun m p=>if 0≤m then roomV k p m else m) (n - 1 - s.names.length - s.ids.length)):=hide (by rw [HSP.out,if_neg hbig])
   clear HSP
   generalize s.s=x at *
   have hbd:¬ (400:Int)<(x.length:Int):=by omega
   have hbe:decide ((400:Int)<(x.length:Int))=false:=decide_eq_false hbd
   go_enter Tryz.func82,Tryz.ntmps82
   go_wp2_with fail
   generalize hm0:n - 1 - (s.names.length:Int) - (s.ids.length:Int)=m0 at *
   clear hm0
   go_loopw [1,7] (fun nv iv wr=>∃ (i:Nat) (m:Int),nv=.int .i64 m∧iv=.int .i64 i∧i≤s.parts.length∧m≤1000∧-1000000000000000≤m∧m=(s.parts.take i).foldl (fun m p=>if 0≤m then roomV k p m else m) m0∧Blk wr w.heap.size 43 cs.toArray∧Below w.heap.size w wr) (fun _ iv _=>s.parts.length - (intOf iv).toNat)
   case atStart=>exact ⟨0,m0,rfl,rfl,Nat.zero_le _,hstart,hlow,rfl,HK0.out,HW0.out⟩
   case round =>
    clear HK0 HW0
    obtain ⟨i,m,rfl,rfl,hi,hm1,hm2,hfold,hblk,hbel⟩:=hrel
    have HF:=hide hfold
    have GB:=hide hblk
    have GW:=hide hbel
    clear hfold hblk hbel
    have c2:wr.cell? ⟨w.heap.size,5,none⟩=some (.slice Ap s.parts.length cp):=by rw [GB.out.cell];simpa using hp1
    by_cases hgo:i<s.parts.length∧0≤m
    ·obtain ⟨hlt,h0⟩:=hgo
     obtain ⟨b,o,rfl,hb,hC⟩:=HA.out (by omega)
     obtain ⟨hl3,hr⟩:=hC i hlt
     have hg:=List.getElem?_eq_getElem hlt
     have HRW:Hid (wr.rangeAt b (o+i * 6) (C i)):=hide fun q v hv=>(GW.out.cell (p:=⟨b,o+i * 6+q,none⟩) hb).trans (hr q v hv)
     have HL3:=hide hl3
     have HPI:=hide ((HP.out i _ hg).more GW.out)
     have HRL:=hide (roomV_le k s.parts[i] m (by omega))
     have HFS:Hid ((s.parts.take (i+1)).foldl (fun m p=>if 0≤m then roomV k p m else m) m0=roomV k s.parts[i] m):=hide (by
      rw [List.take_succ_eq_append_getElem hlt,List.foldl_append,← HF.out,List.foldl_cons,List.foldl_nil,if_pos h0])
     clear hr hl3 hg hC
     generalize s.parts[i]=p at *
     generalize C i=es at *
     go_wp2_with (first | (refine wpList_load_mid rfl 43 _ rfl b (o+i * 6) rfl es _ HRW.out rfl rfl (by rw [HL3.out];exact info_valB) ?_) | fail)
     refine (HI.out p m es _ HPI.out (by omega) h0 hm1).mono ?_
     rintro e w1 ⟨hlo,rfl,hb1⟩
     have hrl:=HRL.out
     generalize roomV k p m=m1 at *
     go_wp2_with fail
     exact ⟨⟨i+1,m1,rfl,by go_num,by omega,by omega,by omega,HFS.out.symm,GB.out.below hb1 GB.out.lt,GW.out.trans (hb1.mono GW.out.size)⟩,by simp [intOf];omega⟩
    ·have HX:Hid (roomV (k+1) s n=m):=hide (by
      rw [HE.out,HF.out]
      rcases Nat.lt_or_ge i s.parts.length with hx | hx
      ·have hm:m<0:=by omega
       have e:s.parts.foldl (fun m p=>if 0≤m then roomV k p m else m) m0=(s.parts.drop i).foldl (fun m p=>if 0≤m then roomV k p m else m) m:=by
        rw [HF.out,← List.foldl_append,List.take_append_drop]
       rw [e,foldRoomV_neg k _ _ hm,HF.out]
      ·rw [List.take_of_length_le hx])
     clear HF HE
     by_cases hlt:i<s.parts.length
     all_goals
      go_wp2
      go_ret
      exact ⟨by rw [HX.out];exact hm2,ret_eq (by rw [HX.out];rfl),GW.out⟩

set_option maxHeartbeats 400000 in
set_option maxRecDepth 20000 in
theorem greatV_calls (s:DVal) (cs:List Value) (w:World) (hs:IsVal w (·<w.heap.size) s cs) :
  Calls Tryz.prog 57 #[.agg cs.toArray] w (Gives (.bool (decide (roomV 12 s 300<0))) w):=by
 have HB:=hide (Blk.new w 43 cs.toArray)
 have HW:=hide ((Below.refl w.heap.size w).alloc (Nat.le_refl _) (.cells cs.toArray 43))
 have HS:=hide (hs.more HW.out)
 have hl:=hs.length
 have HC:=hide (roomV_calls 12 s 300 cs _ HS.out (by omega) (by omega) (by omega))
 have HL:=hide (show (Tryz.prog.info? 43).map (·.size)=some cs.toArray.size by rw [info_valB];simp [hl])
 clear hs hl
 go_enter Tryz.func57,Tryz.ntmps57
 go_wp2_with (first | (refine wpList_load_blk rfl 43 _ rfl _ rfl _ _ HB.out _ rfl rfl HL.out ?_) | fail)
 refine HC.out.mono ?_
 rintro e w1 ⟨hlo,rfl,hb1⟩
 have HW1:=hide (HW.out.trans (hb1.mono HW.out.size))
 clear hb1
 generalize roomV 12 s 300=m at *
 go_wp2
 go_ret
 exact ⟨ret_eq rfl,HW1.out⟩

def badHead (kd:Int) (nw:Nat):Prop:=kd<1∨6<kd∨8<nw∨(kd ≠ 4∧kd ≠ 5∧0<nw)∨(kd=4∧nw=0)
instance (kd:Int) (nw:Nat):Decidable (badHead kd nw):=by unfold badHead;exact inferInstance
def wantS (kd:Int) (nw:Nat):Nat:=if kd=5 then nw else if kd=6 then 1 else 0
def clash (kd:Int) (x y:Str):Bool:=decide (x=y) || (decide (kd=5) && sLt x y)
def wordOk (kd:Int) (l:List Str) (i:Nat):Bool:=nameB (l.getD i []) && (List.range i).all fun j => !clash kd (l.getD i []) (l.getD j [])
def hereS (s:DSch):Bool := !decide (badHead s.kind s.words.length) && (decide (s.parts.length=wantS s.kind s.words.length) && (List.range s.words.length).all (wordOk s.kind s.words))
def soundS:Nat→DSch→Bool
 | 0,_=>true
 | k+1,s=>hereS s && s.parts.all (soundS k)
def headB (kd:Int) (nw:Nat):Bool:=decide (badHead kd nw)
theorem headB_t {kd:Int} {nw:Nat} (h:badHead kd nw):headB kd nw=true:=decide_eq_true h
theorem headB_f {kd:Int} {nw:Nat} (h:¬ badHead kd nw):headB kd nw=false:=decide_eq_false h

set_option maxHeartbeats 4000000 in
set_option maxRecDepth 20000 in
theorem refSound_calls (k:Nat):∀ (s:DSch) (cs:List Value) (w:World),s.depth≤k→IsSch w (·<w.heap.size) s cs →
  Calls Tryz.prog 64 #[.agg cs.toArray] w (Gives (.bool (soundS k s)) w):=by
 induction k with
 | zero=>intro s cs w h;have:=s.depth_pos;omega
 | succ k ih =>
  intro s cs w hk hs
  obtain ⟨hk1,hki⟩:=hs.kind_
  obtain ⟨Aw,cw,hw1,hwr,hwz,hwc,hwm⟩:=hs.words_
  obtain ⟨Ap,cp,C,hp1,hpc,hpm,hP,hA⟩:=hs.partsF
  have HW0:=hide ((Below.refl w.heap.size w).alloc (Nat.le_refl _) (.cells cs.toArray 25))
  have HX:=hide (Blk.new w 25 cs.toArray)
  have HWR:=hide hwr
  have HWZ:=hide hwz
  have HPA:=hide hA
  have HPP:=hide hP
  have HI:=hide ih
  have HDP:=hide (fun p (h:p∈s.parts)=>DSch.depth_part h)
  have HSP:Hid (soundS (k+1) s=((!headB s.kind s.words.length && (decide (s.parts.length=wantS s.kind s.words.length) && (List.range s.words.length).all (wordOk s.kind s.words))) && s.parts.all (soundS k))):=hide rfl
  have hkb:=i64_wf hki
  clear ih hs hwr hwz hP hA hki
  generalize hres:soundS (k+1) s=res at *
  clear hres
  go_enter Tryz.func64,Tryz.ntmps64
  go_upto_region 1 with fail
  go_cut [47] (fun c wx=>c=.bool (headB s.kind s.words.length)∧wx=w.alloc (.cells cs.toArray 25))
  case first =>
   generalize s.kind=kd at *
   generalize s.words.length=nw at *
   have key:kd<1∨6<kd∨(1≤kd∧kd≤6∧8<nw)∨((kd=1∨kd=2∨kd=3∨kd=6)∧nw=0)∨((kd=1∨kd=2∨kd=3∨kd=6)∧0<nw∧nw≤8)∨(kd=4∧nw=0)∨(kd=4∧0<nw∧nw≤8)∨(kd=5∧nw≤8):=by omega
   rcases key with h | h | h | h | h | h | h | h
   ·have HR:Hid (headB kd nw=true):=hide (headB_t (by unfold badHead;omega))
    go_wp2_with fail
    go_meet
    exact ⟨by rw [HR.out],rfl⟩
   ·have HR:Hid (headB kd nw=true):=hide (headB_t (by unfold badHead;omega))
    have l1:1≤kd:=by omega
    go_wp2_with fail
    go_meet
    exact ⟨by rw [HR.out] <;> (first | rfl | (simp;done) | (simp;omega)),rfl⟩
   ·have HR:Hid (headB kd nw=true):=hide (headB_t (by unfold badHead;omega))
    obtain ⟨l1,l6,l8⟩:=h
    go_wp2_with fail
    go_meet
    exact ⟨by rw [HR.out] <;> (first | rfl | (simp;done) | (simp;omega)),rfl⟩
   all_goals
    first
     | (have HR:Hid (headB kd nw=true):=hide (headB_t (by unfold badHead;omega)))
     | (have HR:Hid (headB kd nw=false):=hide (headB_f (by unfold badHead;omega)))
    have l1:1≤kd:=by omega
    have l6:kd≤6:=by omega
    have l8:nw≤8:=by omega
    first
     | (have f4:(kd != 4)=true:=by simp;omega)
     | (have f4:(kd != 4)=false:=by simp;omega)
    first
     | (have e4:(kd == 4)=true:=by simp;omega)
     | (have e4:(kd == 4)=false:=by simp;omega)
    first
     | (have f5:(kd != 5)=true:=by simp;omega)
     | (have f5:(kd != 5)=false:=by simp;omega)
    first
     | (have l0:0<nw:=by omega;have z0:((nw:Int) == 0)=false:=by simp;omega)
     | (have l0:nw≤0:=by omega;have z0:((nw:Int) == 0)=true:=by simp;omega)
     | skip
    have HH:=hide h
    clear h
    go_wp2_with fail
    all_goals
     go_meet
     have h:=HH.out
     exact ⟨by rw [HR.out] <;> (first | rfl | (simp;done) | (simp;omega)),rfl⟩
  case rest =>
   obtain ⟨rfl,rfl⟩:=hcut
   cases hh:headB s.kind s.words.length
   case true =>
    rw [hh] at HSP
    have HR:Hid (res=false):=hide (by rw [HSP.out];simp)
    clear hh HSP
    go_wp2
    go_ret
    exact ⟨ret_eq (by rw [HR.out];rfl),HW0.out⟩
   case false =>
    have hgood:¬ badHead s.kind s.words.length:=of_decide_eq_false hh
    rw [hh,Bool.not_false,Bool.true_and] at HSP
    have hn8:s.words.length≤8:=by unfold badHead at hgood;omega
    have HWANT:Hid (wantS s.kind s.words.length=if s.kind=5 then s.words.length else if s.kind=6 then 1 else 0):=hide rfl
    clear hh hgood
    generalize hwn:wantS s.kind s.words.length=want at *
    have hwant8:want≤8:=by rw [HWANT.out];split <;> (try split) <;> omega
    clear hwn
    go_upto_if 50 with fail
    go_cut [3] (fun c wx=>c=.int .i64 (((if s.kind=5 then s.words.length else 0:Nat)):Int)∧wx=w.alloc (.cells cs.toArray 25))
    case first =>
     by_cases h5:s.kind=5
     ·have e5:(s.kind == 5)=true:=by simp [h5]
      have HH:=hide h5
      clear h5
      go_wp2_with fail
      go_meet
      exact ⟨by rw [if_pos HH.out],rfl⟩
     ·have e5:(s.kind == 5)=false:=by simpa using h5
      have HH:=hide h5
      clear h5
      go_wp2_with fail
      go_meet
      exact ⟨by rw [if_neg HH.out];rfl,rfl⟩
    case rest =>
     obtain ⟨rfl,rfl⟩:=hcut
     generalize hx5:(if s.kind=5 then s.words.length else 0:Nat)=x5
     have HX5:=hide hx5
     clear hx5
     go_upto_if 56 with fail
     go_cut [3] (fun c wx=>c=.int .i64 (want:Int)∧wx=w.alloc (.cells cs.toArray 25))
     case first =>
      by_cases h6:s.kind=6
      ·have e6:(s.kind == 6)=true:=by simp [h6]
       have HH:=hide h6
       clear h6
       go_wp2_with fail
       go_meet
       exact ⟨by rw [HWANT.out,if_neg (by rw [HH.out];decide),if_pos HH.out];rfl,rfl⟩
      ·have e6:(s.kind == 6)=false:=by simpa using h6
       have HH:=hide h6
       clear h6
       go_wp2_with fail
       go_meet
       exact ⟨by rw [HWANT.out,← HX5.out,if_neg HH.out],rfl⟩
     case rest =>
      obtain ⟨rfl,rfl⟩:=hcut
      clear HX5 HWANT
      by_cases hpw:s.parts.length=want
      case neg =>
       have hne:((s.parts.length:Int) != (want:Int))=true:=by simp;omega
       have HR:Hid (res=false):=hide (by rw [HSP.out,decide_eq_false hpw];simp)
       clear hpw HSP
       go_wp2
       go_ret
       exact ⟨ret_eq (by rw [HR.out];rfl),HW0.out⟩
      have hne:((s.parts.length:Int) != (want:Int))=false:=by simp [hpw]
      rw [decide_eq_true hpw,Bool.true_and] at HSP
      clear hpw
      go_wp2_with fail
      go_loopw [4] (fun i wr=>∃ (n:Nat),i=.int .i64 n∧n≤s.words.length∧(∀ r,r<n→wordOk s.kind s.words r=true)∧Blk wr w.heap.size 25 cs.toArray∧Below w.heap.size w wr) (fun i _=>s.words.length - (intOf i).toNat)
      case atStart=>exact ⟨0,rfl,Nat.zero_le _,fun r hr=>by omega,HX.out,HW0.out⟩
      case round =>
       obtain ⟨n,rfl,hn,hok,hblk,hw⟩:=hrel
       have GN:=hide hok
       have GB:=hide hblk
       have GW:=hide hw
       clear hok hblk hw HX HW0 hne
       obtain ⟨wo,rfl⟩:∃ wo:World,wo=wr:=⟨_,rfl⟩
       have c1:wo.cell? ⟨w.heap.size,1,none⟩=some (.slice Aw s.words.length cw):=by rw [GB.out.cell];simpa using hw1
       by_cases hlt:n<s.words.length
       ·obtain ⟨x,o,rfl,hx,hcw⟩:=HWR.out.at_ hlt
        have d1:wo.cell? ⟨x,o+n,none⟩=some (sv s.words[n]):=(GW.out.cell (p:=⟨x,o+n,none⟩) hx).trans hcw
        have hz:=HWZ.out _ (List.getElem_mem hlt)
        have HCN:=hide (fun (W:World)=>refName_calls s.words[n] W hz)
        have HG:=hide (show s.words.getD n []=s.words[n] by simp [List.getD,hlt])
        have HBAD:Hid (wordOk s.kind s.words n=false→res=false):=hide fun h=>by
         rw [HSP.out,show (List.range s.words.length).all (wordOk s.kind s.words)=false from List.all_eq_false.2 ⟨n,List.mem_range.2 hlt,by rw [h];simp⟩]
         rfl
        have HOK:Hid (wordOk s.kind s.words n=(nameB (s.words.getD n []) && (List.range n).all fun j => !clash s.kind (s.words.getD n []) (s.words.getD j []))):=hide rfl
        rw [HG.out] at HOK
        clear hcw hz HG
        generalize hsn:s.words[n]=sn at *
        have HSN:=hide hsn
        clear hsn
        cases hnm:nameB sn
        case false =>
         rw [hnm] at HCN HOK
         clear hnm
         go_wp2_with fail
         refine (HCN.out _).mono ?_
         rintro e w1 ⟨rfl,rfl⟩
         go_wp2
         go_ret
         exact ⟨ret_eq (by rw [HBAD.out (by rw [HOK.out];rfl)];rfl),GW.out⟩
        case true =>
         rw [hnm,Bool.true_and] at HOK
         rw [hnm] at HCN
         clear hnm
         go_wp2_with fail
         refine (HCN.out _).mono ?_
         rintro e w1 ⟨rfl,rfl⟩
         go_wp2_with fail
         go_loopw [5] (fun i wr=>∃ (j:Nat),i=.int .i64 j∧j≤n∧(∀ r,r<j→clash s.kind sn (s.words.getD r [])=false)∧Blk wr w.heap.size 25 cs.toArray∧Below w.heap.size w wr) (fun i _=>n - (intOf i).toNat)
         case atStart=>exact ⟨0,rfl,Nat.zero_le _,fun r hr=>by omega,GB.out,GW.out⟩
         case round =>
          clear c1 d1 GB GW
          obtain ⟨j,rfl,hj,hcl,hblk,hw⟩:=hrel
          have GJ:=hide hcl
          have GB:=hide hblk
          have GW:=hide hw
          clear hcl hblk hw
          have c0:wr.cell? ⟨w.heap.size,0,none⟩=some (.int .i64 s.kind):=by rw [GB.out.cell];simpa using hk1
          have c1:wr.cell? ⟨w.heap.size,1,none⟩=some (.slice (some ⟨x,o,none⟩) s.words.length cw):=by rw [GB.out.cell];simpa using hw1
          by_cases hjn:j<n
          ·have hjl:j<s.words.length:=by omega
           obtain ⟨x',o',e',_,hcj⟩:=HWR.out.at_ hjl
           obtain ⟨rfl,rfl⟩:x=x'∧o=o':=by injection e' with e';injection e' with e1 e2;exact ⟨e1,e2⟩
           obtain ⟨x',o',e'',_,hcn⟩:=HWR.out.at_ hlt
           obtain ⟨rfl,rfl⟩:x=x'∧o=o':=by injection e'' with e';injection e' with e1 e2;exact ⟨e1,e2⟩
           rw [HSN.out] at hcn
           have d1:wr.cell? ⟨x,o+n,none⟩=some (sv sn):=(GW.out.cell (p:=⟨x,o+n,none⟩) hx).trans hcn
           have d2:wr.cell? ⟨x,o+j,none⟩=some (sv s.words[j]):=(GW.out.cell (p:=⟨x,o+j,none⟩) hx).trans hcj
           have HG:=hide (show s.words.getD j []=s.words[j] by simp [List.getD,hjl])
           have HBJ:Hid (clash s.kind sn (s.words.getD j [])=true→res=false):=hide fun h=>HBAD.out (by
            rw [HOK.out,List.all_eq_false]
            exact ⟨j,List.mem_range.2 hjn,by rw [h];simp⟩)
           rw [HG.out] at HBJ
           have HCJ:Hid (clash s.kind sn s.words[j]=false→∀ r,r<j+1→clash s.kind sn (s.words.getD r [])=false):=hide fun h r hr=>by
            by_cases e:r=j
            ·rw [e,HG.out];exact h
            ·exact GJ.out r (by omega)
           have j1:(0:Int)≤(n:Int):=by omega
           have j2:(n:Int)<(s.words.length:Int):=by omega
           have j3:(0:Int)≤(j:Int):=by omega
           have j4:(j:Int)<(s.words.length:Int):=by omega
           clear hcj hcn e' e'' HG
           generalize s.words[j]=sj at *
           cases hss:(sn == sj)
           case true =>
            have HC:Hid (clash s.kind sn sj=true):=hide (by unfold clash;rw [show sn=sj by simpa using hss];simp)
            go_wp2_with fail
            go_quiet (fail)
            go_wp2
            go_ret
            exact ⟨ret_eq (by rw [HBJ.out HC.out];rfl),below_drewN GW.out _⟩
           case false =>
            have hne:sn ≠ sj:=by simpa using hss
            have HNE:=hide hne
            clear hne
            by_cases h5:s.kind=5
            ·have e5:(s.kind == 5)=true:=by simp [h5]
             have H5:=hide h5
             clear h5
             cases hl:Op.bytesLess sn sj
             case true =>
              have HC:Hid (clash s.kind sn sj=true):=hide (by unfold clash;rw [H5.out,show sLt sn sj=true from hl];simp)
              go_wp2_with fail
              go_quiet (fail)
              go_wp2
              go_ret
              exact ⟨ret_eq (by rw [HBJ.out HC.out];rfl),below_drewN GW.out _⟩
             case false =>
              have HC:Hid (clash s.kind sn sj=false):=hide (by unfold clash;rw [show sLt sn sj=false from hl,decide_eq_false HNE.out];simp)
              go_wp2_with fail
              go_quiet (fail)
              go_wp2_with fail
              exact ⟨⟨j+1,by go_num,by omega,HCJ.out HC.out,GB.out.drewN _,below_drewN GW.out _⟩,by simp [intOf];omega⟩
            ·have e5:(s.kind == 5)=false:=by simpa using h5
             have HC:Hid (clash s.kind sn sj=false):=hide (by unfold clash;rw [decide_eq_false h5,decide_eq_false HNE.out];simp)
             clear h5
             go_wp2_with fail
             go_quiet (fail)
             go_wp2_with fail
             exact ⟨⟨j+1,by go_num,by omega,HCJ.out HC.out,GB.out.drewN _,below_drewN GW.out _⟩,by simp [intOf];omega⟩
          ·obtain rfl:j=n:=by omega
           have HG:Hid (∀ r,r<j+1→wordOk s.kind s.words r=true):=hide fun r hr=>by
            by_cases e:r=j
            ·rw [e,HOK.out,List.all_eq_true]
             exact fun q hq=>by rw [GJ.out q (List.mem_range.1 hq)];rfl
            ·exact GN.out r (by omega)
           go_wp2_with fail
           exact ⟨⟨j+1,by go_num,by omega,HG.out,GB.out,GW.out⟩,by simp [intOf];omega⟩
       ·have HW:Hid (res=s.parts.all (soundS k)):=hide (by
         rw [HSP.out,show (List.range s.words.length).all (wordOk s.kind s.words)=true from List.all_eq_true.2 fun r hr=>GN.out r (by have:=List.mem_range.1 hr;omega),Bool.true_and])
        clear HSP GN
        go_wp2_with fail
        go_loopw [6] (fun i wr=>∃ (j:Nat),i=.int .i64 j∧j≤s.parts.length∧(∀ p∈s.parts.take j,soundS k p=true)∧Blk wr w.heap.size 25 cs.toArray∧Below w.heap.size w wr) (fun i _=>s.parts.length - (intOf i).toNat)
        case atStart=>exact ⟨0,rfl,Nat.zero_le _,by simp,GB.out,GW.out⟩
        case round =>
         clear c1 GB GW
         obtain ⟨j,rfl,hj,hok,hblk,hw⟩:=hrel
         have GN:=hide hok
         have GB:=hide hblk
         have GW:=hide hw
         clear hok hblk hw
         have c2:wr.cell? ⟨w.heap.size,2,none⟩=some (.slice Ap s.parts.length cp):=by rw [GB.out.cell];simpa using hp1
         by_cases hlt2:j<s.parts.length
         ·obtain ⟨x,o,rfl,hx,hc⟩:=HPA.out (by omega)
          obtain ⟨hl3,hr⟩:=hc j hlt2
          have HRW:Hid (wr.rangeAt x (o+j * 3) (C j)):=hide fun q v hv=>(GW.out.cell (p:=⟨x,o+j * 3+q,none⟩) hx).trans (hr q v hv)
          have HL3:=hide hl3
          have HPI:=hide ((HPP.out j _ (List.getElem?_eq_getElem hlt2)).more GW.out)
          have hpd:=HDP.out _ (List.getElem_mem hlt2)
          have HC:=hide (HI.out s.parts[j] (C j) wr (by omega) HPI.out)
          have HB:Hid (soundS k s.parts[j]=false→res=false):=hide fun h=>by
           rw [HW.out,List.all_eq_false]
           exact ⟨_,List.getElem_mem hlt2,by rw [h];simp⟩
          have HT:Hid (soundS k s.parts[j]=true→∀ p∈s.parts.take (j+1),soundS k p=true):=hide fun h p hp=>by
           rw [List.take_succ_eq_append_getElem hlt2] at hp
           rcases List.mem_append.1 hp with h1 | h1
           ·exact GN.out p h1
           ·rw [List.mem_singleton.1 h1];exact h
          clear hc hr hl3 hpd
          generalize s.parts[j]=p at *
          generalize C j=D at *
          cases hss:soundS k p
          all_goals
           have HSS:=hide hss
           rw [hss] at HC
           clear hss
           go_wp2_with (first | (refine wpList_load_mid rfl 25 _ rfl x (o+j * 3) rfl D _ HRW.out rfl rfl (by rw [HL3.out];kernel_rfl) ?_) | fail)
           refine HC.out.mono ?_
           rintro e w1 ⟨rfl,hb1⟩
           have KB:=hide (GB.out.below hb1 GB.out.lt)
           have KW:=hide (GW.out.trans (hb1.mono GW.out.size))
           clear hb1
          ·go_wp2
           go_ret
           exact ⟨ret_eq (by rw [HB.out HSS.out];rfl),KW.out⟩
          ·go_wp2_with fail
           exact ⟨⟨j+1,by go_num,by omega,HT.out HSS.out,KB.out,KW.out⟩,by simp [intOf];omega⟩
         ·have HE:Hid (res=true):=hide (by
           rw [HW.out,List.all_eq_true]
           intro p hp
           exact GN.out p (by rw [List.take_of_length_le (by omega)];exact hp))
          go_wp2
          go_ret
          exact ⟨ret_eq (by rw [HE.out];rfl),GW.out⟩
end Go.Proofs.YtogbklnkpjjkoaaGreatDoor
namespace Go.Proofs.YtogbklnkpjjkoaaGreatDoor

theorem sLt_trans {a b c:Str} (h1:sLt a b=true) (h2:sLt b c=true):sLt a c=true:=by
 rw [sLt_iff,decide_eq_true_eq] at *
 exact List.lt_trans h1 h2
theorem sLt_irrefl (a:Str):sLt a a=false:=by
 rw [sLt_iff,decide_eq_false_iff_not]
 exact List.lt_irrefl a
theorem sLt_total {a b:Str} (h1:sLt a b=false) (h2:a ≠ b):sLt b a=true:=by
 rw [sLt_iff,decide_eq_false_iff_not] at h1
 rw [sLt_iff,decide_eq_true_eq]
 exact Classical.byContradiction fun h=>h2 (List.le_antisymm (List.not_lt.1 h) (List.not_lt.1 h1))

theorem unlike_iff (l:List Str):unlikeB l=true↔∀ i,i<l.length→∀ j,j<i→l.getD i [] ≠ l.getD j []:=by
 unfold unlikeB
 rw [List.all_eq_true]
 constructor
 ·intro h i hi j hj e
  have:=h i (List.mem_range.2 hi)
  simp only [Bool.not_eq_true',decide_eq_false_iff_not] at this
  refine this ?_
  rw [e]
  have hjl:j<l.length:=by omega
  rw [show l.getD j []=(l.take i)[j]'(by simp;omega) by simp [List.getD,hjl]]
  exact List.getElem_mem _
 ·intro h i hi
  have hi':=List.mem_range.1 hi
  simp only [Bool.not_eq_true',decide_eq_false_iff_not]
  intro hm
  obtain ⟨j,hj,e⟩:=List.getElem_of_mem hm
  have hji:j<i:=by simp at hj;omega
  refine h i hi' j hji ?_
  have hjl:j<l.length:=by omega
  rw [← e]
  simp [List.getD,hjl]
theorem sorted_iff (l:List Str):sortedB l=true↔∀ i,i+1<l.length→sLt (l.getD (i+1) []) (l.getD i [])=false:=by
 unfold sortedB
 rw [List.all_eq_true]
 constructor
 ·intro h i hi
  have:=h i (List.mem_range.2 (by omega))
  simpa using this
 ·intro h i hi
  have:=List.mem_range.1 hi
  simpa using h i (by omega)
theorem rising_iff (l:List Str):risingB l=true↔∀ i,i<l.length→∀ j,j<i→l.getD i [] ≠ l.getD j []∧sLt (l.getD i []) (l.getD j [])=false:=by
 unfold risingB
 rw [Bool.and_eq_true,unlike_iff,sorted_iff]
 constructor
 ·rintro ⟨hs,hu⟩ i hi j hj
  refine ⟨hu i hi j hj,?_⟩
  have key:∀ d,∀ j,j+d+1<l.length→sLt (l.getD j []) (l.getD (j+d+1) [])=true:=by
   intro d
   induction d with
   | zero =>
    intro j hj
    exact sLt_total (hs j (by omega)) (hu (j+1) (by omega) j (by omega))
   | succ d ih =>
    intro j hj
    exact sLt_trans (ih j (by omega)) (sLt_total (hs (j+d+1) (by omega)) (hu (j+d+1+1) (by omega) (j+d+1) (by omega)))
  have h1:=key (i - j - 1) j (by omega)
  rw [show j+(i - j - 1)+1=i by omega] at h1
  cases h2:sLt (l.getD i []) (l.getD j [])
  ·rfl
  ·have:=sLt_trans h1 h2
   rw [sLt_irrefl] at this
   cases this
 ·intro h
  exact ⟨fun i hi=>(h (i+1) hi i (by omega)).2,fun i hi j hj=>(h i hi j hj).1⟩

theorem namesB_iff (l:List Str):namesB l=true↔l.length≤8∧∀ i,i<l.length→nameB (l.getD i [])=true:=by
 unfold namesB
 rw [Bool.and_eq_true,decide_eq_true_eq,List.all_eq_true]
 constructor
 ·rintro ⟨h1,h2⟩
  exact ⟨h1,fun i hi=>h2 _ (by simp [List.getD,hi])⟩
 ·rintro ⟨h1,h2⟩
  refine ⟨h1,fun x hx=>?_⟩
  obtain ⟨i,hi,rfl⟩:=List.getElem_of_mem hx
  have:=h2 i hi
  simpa [List.getD,hi] using this
theorem clash_f (kd:Int) (x y:Str):clash kd x y=false↔x ≠ y∧(kd=5→sLt x y=false):=by
 unfold clash
 by_cases h5:kd=5
 ·simp [h5]
 ·simp [h5]
theorem words_iff (kd:Int) (l:List Str):(List.range l.length).all (wordOk kd l)=true↔(∀ i,i<l.length→nameB (l.getD i [])=true)∧∀ i,i<l.length→∀ j,j<i→clash kd (l.getD i []) (l.getD j [])=false:=by
 rw [List.all_eq_true]
 constructor
 ·intro h
  refine ⟨fun i hi=>?_,fun i hi j hj=>?_⟩
  ·have:=h i (List.mem_range.2 hi)
   unfold wordOk at this
   exact (Bool.and_eq_true _ _ ▸ this).1
  ·have:=h i (List.mem_range.2 hi)
   unfold wordOk at this
   have h2:=List.all_eq_true.1 (Bool.and_eq_true _ _ ▸ this).2 j (List.mem_range.2 hj)
   simpa using h2
 ·rintro ⟨h1,h2⟩ i hi
  have hi':=List.mem_range.1 hi
  unfold wordOk
  rw [h1 i hi',Bool.true_and,List.all_eq_true]
  intro j hj
  rw [h2 i hi' j (List.mem_range.1 hj)]
  rfl
theorem plain_here (s:DSch):plainS s=hereS s:=by
 rw [Bool.eq_iff_iff]
 unfold plainS hereS
 rw [Bool.and_eq_true,Bool.and_eq_true,Bool.not_eq_true',decide_eq_false_iff_not,decide_eq_true_eq,words_iff]
 generalize s.kind=kd
 generalize s.words=l
 generalize s.parts.length=np
 have nil:l.length=0→(∀ i,i<l.length→nameB (l.getD i [])=true)∧∀ i,i<l.length→∀ j,j<i→clash kd (l.getD i []) (l.getD j [])=false:=fun h=>⟨fun i hi=>by omega,fun i hi=>by omega⟩
 by_cases h1:kd=1∨kd=2∨kd=3
 ·rw [if_pos h1]
  simp only [Bool.and_eq_true,decide_eq_true_eq]
  have hw:wantS kd l.length=0:=by unfold wantS;rw [if_neg (by omega),if_neg (by omega)]
  rw [hw]
  constructor
  ·rintro ⟨a,b⟩;exact ⟨by unfold badHead;omega,b,nil a⟩
  ·rintro ⟨a,b,_⟩;unfold badHead at a;exact ⟨by omega,b⟩
 ·rw [if_neg h1]
  by_cases h4:kd=4
  ·subst h4
   rw [if_pos rfl]
   simp only [Bool.and_eq_true,decide_eq_true_eq,namesB_iff,unlike_iff]
   have hw:wantS 4 l.length=0:=by simp [wantS]
   rw [hw]
   constructor
   ·rintro ⟨a,⟨b1,b2⟩,c,d⟩
    exact ⟨by unfold badHead;omega,d,b2,fun i hi j hj=>(clash_f _ _ _).2 ⟨c i hi j hj,fun h=>by omega⟩⟩
   ·rintro ⟨a,b,c,d⟩
    unfold badHead at a
    exact ⟨by omega,⟨by omega,c⟩,fun i hi j hj=>((clash_f _ _ _).1 (d i hi j hj)).1,b⟩
  ·rw [if_neg h4]
   by_cases h5:kd=5
   ·subst h5
    rw [if_pos rfl]
    simp only [Bool.and_eq_true,decide_eq_true_eq,namesB_iff,rising_iff]
    have hw:wantS 5 l.length=l.length:=by simp [wantS]
    rw [hw]
    constructor
    ·rintro ⟨⟨b1,b2⟩,c,d⟩
     exact ⟨by unfold badHead;omega,d,b2,fun i hi j hj=>(clash_f _ _ _).2 ⟨(c i hi j hj).1,fun _=>(c i hi j hj).2⟩⟩
    ·rintro ⟨a,b,c,d⟩
     unfold badHead at a
     exact ⟨⟨by omega,c⟩,fun i hi j hj=>⟨((clash_f _ _ _).1 (d i hi j hj)).1,((clash_f _ _ _).1 (d i hi j hj)).2 rfl⟩,b⟩
   ·rw [if_neg h5]
    by_cases h6:kd=6
    ·subst h6
     rw [if_pos rfl]
     simp only [Bool.and_eq_true,decide_eq_true_eq]
     have hw:wantS 6 l.length=1:=by simp [wantS]
     rw [hw]
     constructor
     ·rintro ⟨a,b⟩;exact ⟨by unfold badHead;omega,b,nil a⟩
     ·rintro ⟨a,b,_⟩;unfold badHead at a;exact ⟨by omega,b⟩
    ·rw [if_neg h6]
     constructor
     ·intro h;cases h
     ·rintro ⟨a,_⟩;unfold badHead at a;omega
theorem depths_all (l:List DSch) (k:Nat):DSch.depths l≤k↔∀ p∈l,p.depth≤k:=by
 induction l with
 | nil=>simp [DSch.depths]
 | cons x l ih =>
  simp only [DSch.depths,List.mem_cons,forall_eq_or_imp]
  rw [← ih];omega
theorem right_sound (k:Nat):∀ (s:DSch) (m:Nat),s.depth≤m→rightS k s=(decide (s.depth≤k) && soundS m s):=by
 induction k with
 | zero=>intro s m _;have:=s.depth_pos;simp [rightS];omega
 | succ k ih =>
  intro s m hm
  obtain ⟨m,rfl⟩:∃ n,m=n+1:=⟨m - 1,by have:=s.depth_pos;omega⟩
  have hd:=s.depth_eq
  rw [Bool.eq_iff_iff]
  simp only [rightS,soundS,Bool.and_eq_true,decide_eq_true_eq,plain_here,List.all_eq_true]
  have hall:=depths_all s.parts
  constructor
  ·rintro ⟨h1,h2⟩
   have h3:∀ p∈s.parts,p.depth≤k∧soundS m p=true:=fun p hp=>by
    have:=h2 p hp
    rw [ih p m (by have:=DSch.depth_part hp;omega)] at this
    simpa using this
   exact ⟨by have:=(hall k).2 (fun p hp=>(h3 p hp).1);omega,h1,fun p hp=>(h3 p hp).2⟩
  ·rintro ⟨h0,h1,h2⟩
   refine ⟨h1,fun p hp=>?_⟩
   rw [ih p m (by have:=DSch.depth_part hp;omega),h2 p hp,Bool.and_true,decide_eq_true_eq]
   exact (hall k).1 (by omega) p hp
end Go.Proofs.YtogbklnkpjjkoaaGreatDoor
namespace Go.Proofs.YtogbklnkpjjkoaaGreatDoor
open Go.RowKit

set_option maxHeartbeats 2000000 in
set_option maxRecDepth 20000 in
theorem refSchSame_calls (k:Nat):∀ (a b:DSch) (cs ds:List Value) (w:World),a.depth≤k→IsSch w (·<w.heap.size) a cs→IsSch w (·<w.heap.size) b ds →
  Calls Tryz.prog 22 #[.agg cs.toArray,.agg ds.toArray] w (Gives (.bool (eqB a b)) w):=by
 induction k with
 | zero=>intro a b cs ds w h;have:=a.depth_pos;omega
 | succ k ih =>
  intro a b cs ds w hk ha hb
  obtain ⟨hk1,hki⟩:=ha.kind_
  obtain ⟨hk2,hki2⟩:=hb.kind_
  obtain ⟨Aw,cw,hw1,hwr,hwz,hwc,hwm⟩:=ha.words_
  obtain ⟨Aw2,cw2,hw2,hwr2,hwz2,hwc2,hwm2⟩:=hb.words_
  obtain ⟨Ap,cp,C,hp1,hpc,hpm,hP,hA⟩:=ha.partsF
  obtain ⟨Ap2,cp2,C2,hp2,hpc2,hpm2,hP2,hA2⟩:=hb.partsF
  have HW0:=hide (((Below.refl w.heap.size w).alloc (Nat.le_refl _) (.cells cs.toArray 25)).alloc (by simp) (.cells ds.toArray 25))
  have HX2:=hide ((Blk.new w 25 cs.toArray).alloc (.cells ds.toArray 25))
  have HX3:=hide (Blk.new2 w (.cells cs.toArray 25) 25 ds.toArray)
  have HWR:=hide (And.intro hwr hwr2)
  have HPP:=hide (And.intro hA hA2)
  have HIS:=hide (And.intro hP hP2)
  have HI:=hide ih
  have HSP:=hide (schEq_split a b)
  have HDP:=hide (fun p (h:p∈a.parts)=>DSch.depth_part h)
  clear ih ha hb hA hA2 hP hP2 hwr hwr2 hwz hwz2
  by_cases h1:a.kind=b.kind
  case neg =>
   have hkk:(a.kind != b.kind)=true:=by simpa using h1
   rw [decide_eq_false h1,Bool.false_and] at HSP
   clear h1
   go_enter Tryz.func22,Tryz.ntmps22
   go_wp2
   go_ret
   exact ⟨ret_eq (by rw [HSP.out];rfl),HW0.out⟩
  have hkk:(a.kind != b.kind)=false:=by simpa using h1
  rw [decide_eq_true h1,Bool.true_and] at HSP
  have H1:=hide h1
  clear h1
  by_cases h2:a.words.length=b.words.length
  case neg =>
   have hww:((a.words.length:Int) != (b.words.length:Int))=true:=by simp;omega
   have HF:Hid (eqB a b=false):=hide (by rw [HSP.out,decide_eq_false (fun e=>h2 (by rw [e])),Bool.false_and])
   clear h2
   go_enter Tryz.func22,Tryz.ntmps22
   go_wp2
   go_ret
   exact ⟨ret_eq (by rw [HF.out];rfl),HW0.out⟩
  have hww:((a.words.length:Int) != (b.words.length:Int))=false:=by simp [h2]
  have H2:=hide h2
  clear h2
  by_cases h3:a.parts.length=b.parts.length
  case neg =>
   have hpp:((a.parts.length:Int) != (b.parts.length:Int))=true:=by simp;omega
   have HF:Hid (eqB a b=false):=hide (by rw [HSP.out,eqB_false (fun e=>h3 (by rw [e])),Bool.and_false])
   clear h3
   go_enter Tryz.func22,Tryz.ntmps22
   go_wp2
   go_ret
   exact ⟨ret_eq (by rw [HF.out];rfl),HW0.out⟩
  have hpp:((a.parts.length:Int) != (b.parts.length:Int))=false:=by simp [h3]
  have H3:=hide h3
  clear h3
  go_enter Tryz.func22,Tryz.ntmps22
  go_wp2_with fail
  go_loopw [5] (fun i wr=>∃ (j:Nat),i=.int .i64 j∧j≤a.words.length∧a.words.take j=b.words.take j∧Blk wr w.heap.size 25 cs.toArray∧Blk wr (w.heap.size+1) 25 ds.toArray∧Below w.heap.size w wr) (fun i _=>a.words.length - (intOf i).toNat)
  case atStart=>exact ⟨0,rfl,Nat.zero_le _,by simp,HX2.out,HX3.out,HW0.out⟩
  case round =>
   obtain ⟨j,rfl,hj,heq,hb2,hb3,hw⟩:=hrel
   have GE:=hide heq
   have G2:=hide hb2
   have G3:=hide hb3
   have GW:=hide hw
   clear heq hb2 hb3 hw HX2 HX3 HW0
   obtain ⟨wo,rfl⟩:∃ wo:World,wo=wr:=⟨_,rfl⟩
   have c2:wo.cell? ⟨w.heap.size,1,none⟩=some (.slice Aw a.words.length cw):=by rw [G2.out.cell];simpa using hw1
   have c3:wo.cell? ⟨w.heap.size+1,1,none⟩=some (.slice Aw2 b.words.length cw2):=by rw [G3.out.cell];simpa using hw2
   by_cases hlt:j<a.words.length
   ·have hlt2:j<b.words.length:=by rw [← H2.out];exact hlt
    obtain ⟨x,o,rfl,hx,hc1⟩:=HWR.out.1.at_ hlt
    obtain ⟨x2,o2,rfl,hx2,hc2⟩:=HWR.out.2.at_ hlt2
    have d1:wo.cell? ⟨x,o+j,none⟩=some (sv a.words[j]):=(GW.out.cell (p:=⟨x,o+j,none⟩) hx).trans hc1
    have d2:wo.cell? ⟨x2,o2+j,none⟩=some (sv b.words[j]):=(GW.out.cell (p:=⟨x2,o2+j,none⟩) hx2).trans hc2
    have HT:Hid (a.words[j]=b.words[j]→a.words.take (j+1)=b.words.take (j+1)):=hide fun e=>by rw [List.take_succ_eq_append_getElem hlt,List.take_succ_eq_append_getElem hlt2,GE.out,e]
    have HD:Hid (a.words[j] ≠ b.words[j]→eqB a b=false):=hide fun e=>by
     rw [HSP.out,decide_eq_false,Bool.false_and]
     intro h
     exact e (by simp only [h])
    have j1:(0:Int)≤(j:Int):=by omega
    have j2:(j:Int)<(a.words.length:Int):=by omega
    have j3:(j:Int)<(b.words.length:Int):=by omega
    clear hc1 hc2
    generalize a.words[j]=s1 at *
    generalize b.words[j]=s2 at *
    cases hss:(s1 == s2)
    ·have HSS:=hide hss
     go_wp2_with fail
     go_quiet (fail)
     go_wp2
     go_ret
     exact ⟨ret_eq (by rw [HD.out (by simpa using HSS.out)];rfl),below_drewN GW.out _⟩
    ·have HSS:=hide hss
     go_wp2_with fail
     go_quiet (fail)
     go_wp2_with fail
     exact ⟨⟨j+1,by go_num,by omega,HT.out (by simpa using HSS.out),G2.out.drewN _,G3.out.drewN _,below_drewN GW.out _⟩,by simp [intOf];omega⟩
   ·have HEW:Hid (eqB a b=eqB a.parts b.parts):=hide (by
     have e:a.words=b.words:=by
      have:=GE.out
      rw [List.take_of_length_le (by omega),List.take_of_length_le (by rw [← H2.out];omega)] at this
      exact this
     rw [HSP.out,decide_eq_true e,Bool.true_and])
    clear GE HSP
    have p2:wo.cell? ⟨w.heap.size,2,none⟩=some (.slice Ap a.parts.length cp):=by rw [G2.out.cell];simpa using hp1
    have p3:wo.cell? ⟨w.heap.size+1,2,none⟩=some (.slice Ap2 b.parts.length cp2):=by rw [G3.out.cell];simpa using hp2
    go_wp2_with fail
    go_loopw [6] (fun i wr=>∃ (j:Nat),i=.int .i64 j∧j≤a.parts.length∧a.parts.take j=b.parts.take j∧Blk wr w.heap.size 25 cs.toArray∧Blk wr (w.heap.size+1) 25 ds.toArray∧Below w.heap.size w wr) (fun i _=>a.parts.length - (intOf i).toNat)
    case atStart=>exact ⟨0,rfl,Nat.zero_le _,by simp,G2.out,G3.out,GW.out⟩
    case round =>
     clear c2 c3 p2 p3 G2 G3 GW
     obtain ⟨j,rfl,hj,heq,hb2,hb3,hw⟩:=hrel
     have GE:=hide heq
     have G2:=hide hb2
     have G3:=hide hb3
     have GW:=hide hw
     clear heq hb2 hb3 hw
     obtain ⟨wo,rfl⟩:∃ wo:World,wo=wr:=⟨_,rfl⟩
     have c2:wo.cell? ⟨w.heap.size,2,none⟩=some (.slice Ap a.parts.length cp):=by rw [G2.out.cell];simpa using hp1
     have c3:wo.cell? ⟨w.heap.size+1,2,none⟩=some (.slice Ap2 b.parts.length cp2):=by rw [G3.out.cell];simpa using hp2
     by_cases hlt:j<a.parts.length
     ·have hlt2:j<b.parts.length:=by rw [← H3.out];exact hlt
      obtain ⟨x,o,rfl,hx,hc1⟩:=HPP.out.1 (by omega)
      obtain ⟨x2,o2,rfl,hx2,hc2⟩:=HPP.out.2 (by omega)
      obtain ⟨hl1,hr1⟩:=hc1 j hlt
      obtain ⟨hl2,hr2⟩:=hc2 j hlt2
      have GS:=hide (List.getElem?_eq_getElem hlt)
      have GS2:=hide (List.getElem?_eq_getElem hlt2)
      have HP1:=hide (HIS.out.1 j _ GS.out)
      have HP2:=hide (HIS.out.2 j _ GS2.out)
      have HRW:Hid (∀ W,Below wo.heap.size wo W→W.rangeAt x (o+j * 3) (C j)):=hide fun W hW q v hv=>(hW.cell (p:=⟨x,o+j * 3+q,none⟩) (Nat.lt_of_lt_of_le hx GW.out.size)).trans ((GW.out.cell (p:=⟨x,o+j * 3+q,none⟩) hx).trans (hr1 q v hv))
      have HRW2:Hid (∀ W,Below wo.heap.size wo W→W.rangeAt x2 (o2+j * 3) (C2 j)):=hide fun W hW q v hv=>(hW.cell (p:=⟨x2,o2+j * 3+q,none⟩) (Nat.lt_of_lt_of_le hx2 GW.out.size)).trans ((GW.out.cell (p:=⟨x2,o2+j * 3+q,none⟩) hx2).trans (hr2 q v hv))
      have hpd:=HDP.out _ (List.getElem_mem hlt)
      have HC:=hide (fun (W:World) (hW:Below wo.heap.size wo W)=>HI.out a.parts[j] b.parts[j] (C j) (C2 j) W (by omega) (HP1.out.more (GW.out.trans (hW.mono GW.out.size))) (HP2.out.more (GW.out.trans (hW.mono GW.out.size))))
      have HT:Hid (a.parts[j]=b.parts[j]→a.parts.take (j+1)=b.parts.take (j+1)):=hide fun e=>by rw [List.take_succ_eq_append_getElem hlt,List.take_succ_eq_append_getElem hlt2,GE.out,e]
      have HD:Hid (a.parts[j] ≠ b.parts[j]→eqB a b=false):=hide fun e=>by
       rw [HEW.out]
       refine eqB_false fun h=>e ?_
       simp only [h]
      have hi1:(Tryz.prog.info? 25).map (·.size)=some (C j).length:=by rw [hl1];kernel_rfl
      have hi2:(Tryz.prog.info? 25).map (·.size)=some (C2 j).length:=by rw [hl2];kernel_rfl
      have hu:=Tryz.underlying25
      have j1:(0:Int)≤(j:Int):=by omega
      have j2:(j:Int)<(a.parts.length:Int):=by omega
      have j3:(j:Int)<(b.parts.length:Int):=by omega
      clear hc1 hc2 hr1 hr2 HP1 HP2 GS GS2
      generalize a.parts[j]=s1 at *
      generalize b.parts[j]=s2 at *
      generalize C j=e1 at *
      generalize C2 j=e2 at *
      cases hss:eqB s1 s2
      all_goals
       have HSS:=hide hss
       rw [hss] at HC
       clear hss
       have HC2c:=hide (And.intro c2 c3)
       go_wp2_with fail
       refine wp_region_held_drew (S:=fun w'=>Below wo.heap.size wo w') (by kernel_rfl) (Below.refl _ _).drew (fun hHeld=>?_)
       (refine takeH (i:=0) (v:=.pointer (some ⟨w.heap.size,2,none⟩)) rfl rfl (by kernel_rfl) (by kernel_rfl) (by kernel_rfl) (fun _ _ _ h=>h) (by rfl) (fun wz hSw=>by go_simp) hHeld ?_;simp only [Act.put,List.setIfInBounds_toArray,List.set_cons_zero,List.set_cons_succ])
       (refine takeH (i:=1) (v:=.slice (some ⟨x,o,none⟩) a.parts.length cp) rfl rfl (by kernel_rfl) (by kernel_rfl) (by kernel_rfl) (fun _ _ _ h=>h) (by rfl) (fun wz hSw=>by have hcx:=(hSw.cell (p:=⟨w.heap.size,2,none⟩) G2.out.lt).trans HC2c.out.1;go_simp) hHeld ?_;simp only [Act.put,List.setIfInBounds_toArray,List.set_cons_zero,List.set_cons_succ])
       (refine takeH (i:=2) (v:=.int .i64 j) rfl rfl (by kernel_rfl) (by kernel_rfl) (by kernel_rfl) (fun _ _ _ h=>h) (by rfl) (fun wz hSw=>by go_simp) hHeld ?_;simp only [Act.put,List.setIfInBounds_toArray,List.set_cons_zero,List.set_cons_succ])
       (refine takeH (i:=3) (v:=.pointer (some ⟨x,o+j * 3,none⟩)) rfl rfl (by kernel_rfl) (by kernel_rfl) (by kernel_rfl) (fun _ _ _ h=>h) (by rfl) (fun wz hSw=>by go_simp) hHeld ?_;simp only [Act.put,List.setIfInBounds_toArray,List.set_cons_zero,List.set_cons_succ])
       (refine takeH (i:=4) (v:=.agg (e1).toArray) rfl rfl (by kernel_rfl) (by kernel_rfl) (by kernel_rfl) (fun _ _ _ h=>h) (by rfl) (fun wz hw=>load_exec 25 (.tmp 58) rfl (x) (o+j * 3) rfl (e1) _ (HRW.out _ hw) hu rfl hi1) hHeld ?_;simp only [Act.put,List.setIfInBounds_toArray,List.set_cons_zero,List.set_cons_succ])
       (refine takeH (i:=5) (v:=.pointer (some ⟨w.heap.size+1,2,none⟩)) rfl rfl (by kernel_rfl) (by kernel_rfl) (by kernel_rfl) (fun _ _ _ h=>h) (by rfl) (fun wz hSw=>by go_simp) hHeld ?_;simp only [Act.put,List.setIfInBounds_toArray,List.set_cons_zero,List.set_cons_succ])
       (refine takeH (i:=6) (v:=.slice (some ⟨x2,o2,none⟩) b.parts.length cp2) rfl rfl (by kernel_rfl) (by kernel_rfl) (by kernel_rfl) (fun _ _ _ h=>h) (by rfl) (fun wz hSw=>by have hcx:=(hSw.cell (p:=⟨w.heap.size+1,2,none⟩) G3.out.lt).trans HC2c.out.2;go_simp) hHeld ?_;simp only [Act.put,List.setIfInBounds_toArray,List.set_cons_zero,List.set_cons_succ])
       (refine takeH (i:=7) (v:=.int .i64 j) rfl rfl (by kernel_rfl) (by kernel_rfl) (by kernel_rfl) (fun _ _ _ h=>h) (by rfl) (fun wz hSw=>by go_simp) hHeld ?_;simp only [Act.put,List.setIfInBounds_toArray,List.set_cons_zero,List.set_cons_succ])
       (refine takeH (i:=8) (v:=.pointer (some ⟨x2,o2+j * 3,none⟩)) rfl rfl (by kernel_rfl) (by kernel_rfl) (by kernel_rfl) (fun _ _ _ h=>h) (by rfl) (fun wz hSw=>by go_simp) hHeld ?_;simp only [Act.put,List.setIfInBounds_toArray,List.set_cons_zero,List.set_cons_succ])
       (refine takeH (i:=9) (v:=.agg (e2).toArray) rfl rfl (by kernel_rfl) (by kernel_rfl) (by kernel_rfl) (fun _ _ _ h=>h) (by rfl) (fun wz hw=>load_exec 25 (.tmp 63) rfl (x2) (o2+j * 3) rfl (e2) _ (HRW2.out _ hw) hu rfl hi2) hHeld ?_;simp only [Act.put,List.setIfInBounds_toArray,List.set_cons_zero,List.set_cons_succ])
       (refine oneH (i:=10) rfl (by kernel_rfl) (fun K hK=>?_);go_simp;refine (HC.out _ hHeld).mono ?_;rintro e w1 ⟨rfl,hb1⟩;have hq:=hHeld.trans (hb1.mono hHeld.size);refine hK.out _ _ (hq) (fun hHeld=>?_);clear hK K)
       (refine oneH (i:=11) rfl (by kernel_rfl) (fun K hK=>?_);go_simp;refine hK.out _ _ (hq) (fun hHeld=>?_);clear hK K)
       refine wpAnyH_done (by kernel_rfl) ?_ _
       have K2:=hide (G2.out.below hq G2.out.lt)
       have K3:=hide (G3.out.below hq G3.out.lt)
       have KW:=hide (GW.out.trans (hq.mono GW.out.size))
       clear hHeld hb1 hq hu hi1 hi2
      ·go_wp2
       go_ret
       exact ⟨ret_eq (by rw [HD.out (fun e=>by rw [eqB_true e] at HSS;cases HSS.out)];rfl),KW.out⟩
      ·go_wp2_with fail
       exact ⟨⟨j+1,by go_num,by omega,HT.out (eqB_iff.1 HSS.out),K2.out,K3.out,KW.out⟩,by simp [intOf];omega⟩
     ·have HE:Hid (eqB a b=true):=hide (by
       have:=GE.out
       rw [List.take_of_length_le (by omega),List.take_of_length_le (by rw [← H3.out];omega)] at this
       rw [HEW.out,eqB_true this])
      go_wp2
      go_ret
      exact ⟨ret_eq (by rw [HE.out];rfl),GW.out⟩

set_option maxHeartbeats 4000000 in
set_option maxRecDepth 20000 in
theorem refValSame_calls (k:Nat):∀ (a b:DVal) (cs ds:List Value) (w:World),a.depth≤k→IsVal w (·<w.heap.size) a cs→IsVal w (·<w.heap.size) b ds →
  Calls Tryz.prog 45 #[.agg cs.toArray,.agg ds.toArray] w (Gives (.bool (eqB a b)) w):=by
 induction k with
 | zero=>intro a b cs ds w h;have:=a.depth_pos;omega
 | succ k ih =>
  intro a b cs ds w hk ha hb
  obtain ⟨hk1,hki⟩:=ha.kind_
  obtain ⟨hk2,hki2⟩:=hb.kind_
  obtain ⟨hn1,hni⟩:=ha.n_
  obtain ⟨hn2,hni2⟩:=hb.n_
  obtain ⟨hs1,hsl⟩:=ha.s_
  obtain ⟨hs2,hsl2⟩:=hb.s_
  obtain ⟨Aw,cw,hw1,hwr,hwz,hwc,hwm⟩:=ha.names_
  obtain ⟨Aw2,cw2,hw2,hwr2,hwz2,hwc2,hwm2⟩:=hb.names_
  obtain ⟨Ai,ci,hi1,hir,hiz,hic,him⟩:=ha.ids_
  obtain ⟨Ai2,ci2,hi2,hir2,hiz2,hic2,him2⟩:=hb.ids_
  obtain ⟨Ap,cp,C,hp1,hpc,hpm,hP,hA⟩:=ha.partsF
  obtain ⟨Ap2,cp2,C2,hp2,hpc2,hpm2,hP2,hA2⟩:=hb.partsF
  have HW0:=hide (((Below.refl w.heap.size w).alloc (Nat.le_refl _) (.cells cs.toArray 43)).alloc (by simp) (.cells ds.toArray 43))
  have HX2:=hide ((Blk.new w 43 cs.toArray).alloc (.cells ds.toArray 43))
  have HX3:=hide (Blk.new2 w (.cells cs.toArray 43) 43 ds.toArray)
  have HWR:=hide (And.intro hwr hwr2)
  have HIR:=hide (And.intro hir hir2)
  have HPP:=hide (And.intro hA hA2)
  have HIS:=hide (And.intro hP hP2)
  have HIU:=hide (And.intro hiz hiz2)
  have HI:=hide ih
  have HDP:=hide (fun p (h:p∈a.parts)=>DVal.depth_part h)
  clear ih ha hb hA hA2 hP hP2 hwr hwr2 hwz hwz2 hir hir2 hiz hiz2
  by_cases h1:a.kind=b.kind
  case neg =>
   have hkk:(a.kind != b.kind)=true:=by simp;omega
   have HF:Hid (eqB a b=false):=hide (eqB_false fun e=>h1 (by rw [e]))
   clear h1
   go_enter Tryz.func45,Tryz.ntmps45
   go_wp2
   go_ret
   exact ⟨ret_eq (by rw [HF.out];rfl),HW0.out⟩
  have hne1:(a.kind != b.kind)=false:=by simp [h1]
  have H1:=hide h1
  clear h1
  by_cases h2:a.n=b.n
  case neg =>
   have hkk:(a.n != b.n)=true:=by simp;omega
   have HF:Hid (eqB a b=false):=hide (eqB_false fun e=>h2 (by rw [e]))
   clear h2
   go_enter Tryz.func45,Tryz.ntmps45
   go_wp2
   go_ret
   exact ⟨ret_eq (by rw [HF.out];rfl),HW0.out⟩
  have hne2:(a.n != b.n)=false:=by simp [h2]
  have H2:=hide h2
  clear h2
  by_cases h3:a.s=b.s
  case neg =>
   have hkk:(a.s != b.s)=true:=by simpa using h3
   have hkk2:(a.s == b.s)=false:=by simpa using h3
   have HF:Hid (eqB a b=false):=hide (eqB_false fun e=>h3 (by rw [e]))
   clear h3
   go_enter Tryz.func45,Tryz.ntmps45
   go_wp2
   go_ret
   exact ⟨ret_eq (by rw [HF.out];rfl),HW0.out⟩
  have hne3:(a.s != b.s)=false:=by simp [h3]
  have H3:=hide h3
  clear h3
  by_cases h4:a.names.length=b.names.length
  case neg =>
   have hkk:((a.names.length:Int) != (b.names.length:Int))=true:=by simp;omega
   have HF:Hid (eqB a b=false):=hide (eqB_false fun e=>h4 (by rw [e]))
   clear h4
   go_enter Tryz.func45,Tryz.ntmps45
   go_wp2
   go_ret
   exact ⟨ret_eq (by rw [HF.out];rfl),HW0.out⟩
  have hne4:((a.names.length:Int) != (b.names.length:Int))=false:=by simp [h4]
  have H4:=hide h4
  clear h4
  by_cases h5:a.ids.length=b.ids.length
  case neg =>
   have hkk:((a.ids.length:Int) != (b.ids.length:Int))=true:=by simp;omega
   have HF:Hid (eqB a b=false):=hide (eqB_false fun e=>h5 (by rw [e]))
   clear h5
   go_enter Tryz.func45,Tryz.ntmps45
   go_wp2
   go_ret
   exact ⟨ret_eq (by rw [HF.out];rfl),HW0.out⟩
  have hne5:((a.ids.length:Int) != (b.ids.length:Int))=false:=by simp [h5]
  have H5:=hide h5
  clear h5
  by_cases h6:a.parts.length=b.parts.length
  case neg =>
   have hkk:((a.parts.length:Int) != (b.parts.length:Int))=true:=by simp;omega
   have HF:Hid (eqB a b=false):=hide (eqB_false fun e=>h6 (by rw [e]))
   clear h6
   go_enter Tryz.func45,Tryz.ntmps45
   go_wp2
   go_ret
   exact ⟨ret_eq (by rw [HF.out];rfl),HW0.out⟩
  have hne6:((a.parts.length:Int) != (b.parts.length:Int))=false:=by simp [h6]
  have H6:=hide h6
  clear h6
  go_enter Tryz.func45,Tryz.ntmps45
  go_wp2_with fail
  go_loopw [5] (fun i wr=>∃ (j:Nat),i=.int .i64 j∧j≤a.names.length∧a.names.take j=b.names.take j∧Blk wr w.heap.size 43 cs.toArray∧Blk wr (w.heap.size+1) 43 ds.toArray∧Below w.heap.size w wr) (fun i _=>a.names.length - (intOf i).toNat)
  case atStart=>exact ⟨0,rfl,Nat.zero_le _,by simp,HX2.out,HX3.out,HW0.out⟩
  case round =>
   clear HX2 HX3 HW0
   obtain ⟨j,rfl,hj,heq,hb2,hb3,hw⟩:=hrel
   have GE:=hide heq
   have G2:=hide hb2
   have G3:=hide hb3
   have GW:=hide hw
   clear heq hb2 hb3 hw
   obtain ⟨wo,rfl⟩:∃ wo:World,wo=wr:=⟨_,rfl⟩
   have c2:wo.cell? ⟨w.heap.size,3,none⟩=some (.slice Aw a.names.length cw):=by rw [G2.out.cell];simpa using hw1
   have c3:wo.cell? ⟨w.heap.size+1,3,none⟩=some (.slice Aw2 b.names.length cw2):=by rw [G3.out.cell];simpa using hw2
   by_cases hlt:j<a.names.length
   ·have hlt2:j<b.names.length:=by rw [← H4.out];exact hlt
    obtain ⟨x,o,rfl,hx,hc1⟩:=HWR.out.1.at_ hlt
    obtain ⟨x2,o2,rfl,hx2,hc2⟩:=HWR.out.2.at_ hlt2
    have d1:wo.cell? ⟨x,o+j,none⟩=some (sv a.names[j]):=(GW.out.cell (p:=⟨x,o+j,none⟩) hx).trans hc1
    have d2:wo.cell? ⟨x2,o2+j,none⟩=some (sv b.names[j]):=(GW.out.cell (p:=⟨x2,o2+j,none⟩) hx2).trans hc2
    have HT:Hid (a.names[j]=b.names[j]→a.names.take (j+1)=b.names.take (j+1)):=hide fun e=>by rw [List.take_succ_eq_append_getElem hlt,List.take_succ_eq_append_getElem hlt2,GE.out,e]
    have HD:Hid (a.names[j] ≠ b.names[j]→eqB a b=false):=hide fun e=>eqB_false fun h=>e (by simp only [h])
    have j1:(0:Int)≤(j:Int):=by omega
    have j2:(j:Int)<(a.names.length:Int):=by omega
    have j3:(j:Int)<(b.names.length:Int):=by omega
    clear hc1 hc2
    generalize a.names[j]=s1 at *
    generalize b.names[j]=s2 at *
    cases hss:(s1 == s2)
    ·have HSS:=hide hss
     go_wp2_with fail
     go_quiet (fail)
     go_wp2
     go_ret
     exact ⟨ret_eq (by rw [HD.out (by simpa using HSS.out)];rfl),below_drewN GW.out _⟩
    ·have HSS:=hide hss
     go_wp2_with fail
     go_quiet (fail)
     go_wp2_with fail
     exact ⟨⟨j+1,by go_num,by omega,HT.out (by simpa using HSS.out),G2.out.drewN _,G3.out.drewN _,below_drewN GW.out _⟩,by simp [intOf];omega⟩
   ·have HEN:Hid (a.names=b.names):=hide (by
     have:=GE.out
     rw [List.take_of_length_le (by omega),List.take_of_length_le (by rw [← H4.out];omega)] at this
     exact this)
    clear GE
    have e2:wo.cell? ⟨w.heap.size,4,none⟩=some (.slice Ai a.ids.length ci):=by rw [G2.out.cell];simpa using hi1
    have e3:wo.cell? ⟨w.heap.size+1,4,none⟩=some (.slice Ai2 b.ids.length ci2):=by rw [G3.out.cell];simpa using hi2
    go_wp2_with fail
    go_loopw [6] (fun i wr=>∃ (j:Nat),i=.int .i64 j∧j≤a.ids.length∧a.ids.take j=b.ids.take j∧Blk wr w.heap.size 43 cs.toArray∧Blk wr (w.heap.size+1) 43 ds.toArray∧Below w.heap.size w wr) (fun i _=>a.ids.length - (intOf i).toNat)
    case atStart=>exact ⟨0,rfl,Nat.zero_le _,by simp,G2.out,G3.out,GW.out⟩
    case round =>
     clear c2 c3 e2 e3 G2 G3 GW
     obtain ⟨j,rfl,hj,heq,hb2,hb3,hw⟩:=hrel
     have GE:=hide heq
     have G2:=hide hb2
     have G3:=hide hb3
     have GW:=hide hw
     clear heq hb2 hb3 hw
     obtain ⟨wo,rfl⟩:∃ wo:World,wo=wr:=⟨_,rfl⟩
     have c2:wo.cell? ⟨w.heap.size,4,none⟩=some (.slice Ai a.ids.length ci):=by rw [G2.out.cell];simpa using hi1
     have c3:wo.cell? ⟨w.heap.size+1,4,none⟩=some (.slice Ai2 b.ids.length ci2):=by rw [G3.out.cell];simpa using hi2
     by_cases hlt:j<a.ids.length
     ·have hlt2:j<b.ids.length:=by rw [← H5.out];exact hlt
      obtain ⟨x,o,rfl,hx,hc1⟩:=HIR.out.1.at_ hlt
      obtain ⟨x2,o2,rfl,hx2,hc2⟩:=HIR.out.2.at_ hlt2
      have d1:wo.cell? ⟨x,o+j,none⟩=some (uv a.ids[j]):=(GW.out.cell (p:=⟨x,o+j,none⟩) hx).trans hc1
      have d2:wo.cell? ⟨x2,o2+j,none⟩=some (uv b.ids[j]):=(GW.out.cell (p:=⟨x2,o2+j,none⟩) hx2).trans hc2
      have HT:Hid (a.ids[j]=b.ids[j]→a.ids.take (j+1)=b.ids.take (j+1)):=hide fun e=>by rw [List.take_succ_eq_append_getElem hlt,List.take_succ_eq_append_getElem hlt2,GE.out,e]
      have HD:Hid (a.ids[j] ≠ b.ids[j]→eqB a b=false):=hide fun e=>eqB_false fun h=>e (by simp only [h])
      have j1:(0:Int)≤(j:Int):=by omega
      have j2:(j:Int)<(a.ids.length:Int):=by omega
      have j3:(j:Int)<(b.ids.length:Int):=by omega
      clear hc1 hc2
      generalize a.ids[j]=s1 at *
      generalize b.ids[j]=s2 at *
      unfold uv at d1 d2
      by_cases hss:s1=s2
      ·have hsb:((s1:Int) != (s2:Int))=false:=by simp [hss]
       have HSS:=hide hss
       clear hss
       go_wp2_with fail
       go_quiet (fail)
       go_wp2_with fail
       exact ⟨⟨j+1,by go_num,by omega,HT.out HSS.out,G2.out.drewN _,G3.out.drewN _,below_drewN GW.out _⟩,by simp [intOf];omega⟩
      ·have hsb:((s1:Int) != (s2:Int))=true:=by simp;omega
       have HSS:=hide hss
       clear hss
       go_wp2_with fail
       go_quiet (fail)
       go_wp2
       go_ret
       exact ⟨ret_eq (by rw [HD.out HSS.out];rfl),below_drewN GW.out _⟩
     ·have HEI:Hid (a.ids=b.ids):=hide (by
       have:=GE.out
       rw [List.take_of_length_le (by omega),List.take_of_length_le (by rw [← H5.out];omega)] at this
       exact this)
      clear GE
      have e2:wo.cell? ⟨w.heap.size,5,none⟩=some (.slice Ap a.parts.length cp):=by rw [G2.out.cell];simpa using hp1
      have e3:wo.cell? ⟨w.heap.size+1,5,none⟩=some (.slice Ap2 b.parts.length cp2):=by rw [G3.out.cell];simpa using hp2
      go_wp2_with fail
      go_loopw [7] (fun i wr=>∃ (j:Nat),i=.int .i64 j∧j≤a.parts.length∧a.parts.take j=b.parts.take j∧Blk wr w.heap.size 43 cs.toArray∧Blk wr (w.heap.size+1) 43 ds.toArray∧Below w.heap.size w wr) (fun i _=>a.parts.length - (intOf i).toNat)
      case atStart=>exact ⟨0,rfl,Nat.zero_le _,by simp,G2.out,G3.out,GW.out⟩
      case round =>
       clear c2 c3 e2 e3 G2 G3 GW
       obtain ⟨j,rfl,hj,heq,hb2,hb3,hw⟩:=hrel
       have GE:=hide heq
       have G2:=hide hb2
       have G3:=hide hb3
       have GW:=hide hw
       clear heq hb2 hb3 hw
       obtain ⟨wo,rfl⟩:∃ wo:World,wo=wr:=⟨_,rfl⟩
       have c2:wo.cell? ⟨w.heap.size,5,none⟩=some (.slice Ap a.parts.length cp):=by rw [G2.out.cell];simpa using hp1
       have c3:wo.cell? ⟨w.heap.size+1,5,none⟩=some (.slice Ap2 b.parts.length cp2):=by rw [G3.out.cell];simpa using hp2
       by_cases hlt:j<a.parts.length
       ·have hlt2:j<b.parts.length:=by rw [← H6.out];exact hlt
        obtain ⟨x,o,rfl,hx,hc1⟩:=HPP.out.1 (by omega)
        obtain ⟨x2,o2,rfl,hx2,hc2⟩:=HPP.out.2 (by omega)
        obtain ⟨hl1,hr1⟩:=hc1 j hlt
        obtain ⟨hl2,hr2⟩:=hc2 j hlt2
        have GS:=hide (List.getElem?_eq_getElem hlt)
        have GS2:=hide (List.getElem?_eq_getElem hlt2)
        have HP1:=hide (HIS.out.1 j _ GS.out)
        have HP2:=hide (HIS.out.2 j _ GS2.out)
        have HRW:Hid (∀ W,Below wo.heap.size wo W→W.rangeAt x (o+j * 6) (C j)):=hide fun W hW q v hv=>(hW.cell (p:=⟨x,o+j * 6+q,none⟩) (Nat.lt_of_lt_of_le hx GW.out.size)).trans ((GW.out.cell (p:=⟨x,o+j * 6+q,none⟩) hx).trans (hr1 q v hv))
        have HRW2:Hid (∀ W,Below wo.heap.size wo W→W.rangeAt x2 (o2+j * 6) (C2 j)):=hide fun W hW q v hv=>(hW.cell (p:=⟨x2,o2+j * 6+q,none⟩) (Nat.lt_of_lt_of_le hx2 GW.out.size)).trans ((GW.out.cell (p:=⟨x2,o2+j * 6+q,none⟩) hx2).trans (hr2 q v hv))
        have hpd:=HDP.out _ (List.getElem_mem hlt)
        have HC:=hide (fun (W:World) (hW:Below wo.heap.size wo W)=>HI.out a.parts[j] b.parts[j] (C j) (C2 j) W (by omega) (HP1.out.more (GW.out.trans (hW.mono GW.out.size))) (HP2.out.more (GW.out.trans (hW.mono GW.out.size))))
        have HT:Hid (a.parts[j]=b.parts[j]→a.parts.take (j+1)=b.parts.take (j+1)):=hide fun e=>by rw [List.take_succ_eq_append_getElem hlt,List.take_succ_eq_append_getElem hlt2,GE.out,e]
        have HD:Hid (a.parts[j] ≠ b.parts[j]→eqB a b=false):=hide fun e=>by
         refine eqB_false fun h=>e ?_
         simp only [h]
        have hi1:(Tryz.prog.info? 43).map (·.size)=some (C j).length:=by rw [hl1];kernel_rfl
        have hi2:(Tryz.prog.info? 43).map (·.size)=some (C2 j).length:=by rw [hl2];kernel_rfl
        have hu:=Tryz.underlying43
        have j1:(0:Int)≤(j:Int):=by omega
        have j2:(j:Int)<(a.parts.length:Int):=by omega
        have j3:(j:Int)<(b.parts.length:Int):=by omega
        clear hc1 hc2 hr1 hr2 HP1 HP2 GS GS2
        generalize a.parts[j]=s1 at *
        generalize b.parts[j]=s2 at *
        generalize C j=e1 at *
        generalize C2 j=e2 at *
        cases hss:eqB s1 s2
        all_goals
         have HSS:=hide hss
         rw [hss] at HC
         clear hss
         have HC2c:=hide (And.intro c2 c3)
         go_wp2_with fail
         refine wp_region_held_drew (S:=fun w'=>Below wo.heap.size wo w') (by kernel_rfl) (Below.refl _ _).drew (fun hHeld=>?_)
         (refine takeH (i:=0) (v:=.pointer (some ⟨w.heap.size,5,none⟩)) rfl rfl (by kernel_rfl) (by kernel_rfl) (by kernel_rfl) (fun _ _ _ h=>h) (by rfl) (fun wz hSw=>by go_simp) hHeld ?_;simp only [Act.put,List.setIfInBounds_toArray,List.set_cons_zero,List.set_cons_succ])
         (refine takeH (i:=1) (v:=.slice (some ⟨x,o,none⟩) a.parts.length cp) rfl rfl (by kernel_rfl) (by kernel_rfl) (by kernel_rfl) (fun _ _ _ h=>h) (by rfl) (fun wz hSw=>by have hcx:=(hSw.cell (p:=⟨w.heap.size,5,none⟩) G2.out.lt).trans HC2c.out.1;go_simp) hHeld ?_;simp only [Act.put,List.setIfInBounds_toArray,List.set_cons_zero,List.set_cons_succ])
         (refine takeH (i:=2) (v:=.int .i64 j) rfl rfl (by kernel_rfl) (by kernel_rfl) (by kernel_rfl) (fun _ _ _ h=>h) (by rfl) (fun wz hSw=>by go_simp) hHeld ?_;simp only [Act.put,List.setIfInBounds_toArray,List.set_cons_zero,List.set_cons_succ])
         (refine takeH (i:=3) (v:=.pointer (some ⟨x,o+j * 6,none⟩)) rfl rfl (by kernel_rfl) (by kernel_rfl) (by kernel_rfl) (fun _ _ _ h=>h) (by rfl) (fun wz hSw=>by go_simp) hHeld ?_;simp only [Act.put,List.setIfInBounds_toArray,List.set_cons_zero,List.set_cons_succ])
         (refine takeH (i:=4) (v:=.agg (e1).toArray) rfl rfl (by kernel_rfl) (by kernel_rfl) (by kernel_rfl) (fun _ _ _ h=>h) (by rfl) (fun wz hw=>load_exec 43 (.tmp 100) rfl (x) (o+j * 6) rfl (e1) _ (HRW.out _ hw) hu rfl hi1) hHeld ?_;simp only [Act.put,List.setIfInBounds_toArray,List.set_cons_zero,List.set_cons_succ])
         (refine takeH (i:=5) (v:=.pointer (some ⟨w.heap.size+1,5,none⟩)) rfl rfl (by kernel_rfl) (by kernel_rfl) (by kernel_rfl) (fun _ _ _ h=>h) (by rfl) (fun wz hSw=>by go_simp) hHeld ?_;simp only [Act.put,List.setIfInBounds_toArray,List.set_cons_zero,List.set_cons_succ])
         (refine takeH (i:=6) (v:=.slice (some ⟨x2,o2,none⟩) b.parts.length cp2) rfl rfl (by kernel_rfl) (by kernel_rfl) (by kernel_rfl) (fun _ _ _ h=>h) (by rfl) (fun wz hSw=>by have hcx:=(hSw.cell (p:=⟨w.heap.size+1,5,none⟩) G3.out.lt).trans HC2c.out.2;go_simp) hHeld ?_;simp only [Act.put,List.setIfInBounds_toArray,List.set_cons_zero,List.set_cons_succ])
         (refine takeH (i:=7) (v:=.int .i64 j) rfl rfl (by kernel_rfl) (by kernel_rfl) (by kernel_rfl) (fun _ _ _ h=>h) (by rfl) (fun wz hSw=>by go_simp) hHeld ?_;simp only [Act.put,List.setIfInBounds_toArray,List.set_cons_zero,List.set_cons_succ])
         (refine takeH (i:=8) (v:=.pointer (some ⟨x2,o2+j * 6,none⟩)) rfl rfl (by kernel_rfl) (by kernel_rfl) (by kernel_rfl) (fun _ _ _ h=>h) (by rfl) (fun wz hSw=>by go_simp) hHeld ?_;simp only [Act.put,List.setIfInBounds_toArray,List.set_cons_zero,List.set_cons_succ])
         (refine takeH (i:=9) (v:=.agg (e2).toArray) rfl rfl (by kernel_rfl) (by kernel_rfl) (by kernel_rfl) (fun _ _ _ h=>h) (by rfl) (fun wz hw=>load_exec 43 (.tmp 105) rfl (x2) (o2+j * 6) rfl (e2) _ (HRW2.out _ hw) hu rfl hi2) hHeld ?_;simp only [Act.put,List.setIfInBounds_toArray,List.set_cons_zero,List.set_cons_succ])
         (refine oneH (i:=10) rfl (by kernel_rfl) (fun K hK=>?_);go_simp;refine (HC.out _ hHeld).mono ?_;rintro e w1 ⟨rfl,hb1⟩;have hq:=hHeld.trans (hb1.mono hHeld.size);refine hK.out _ _ (hq) (fun hHeld=>?_);clear hK K)
         (refine oneH (i:=11) rfl (by kernel_rfl) (fun K hK=>?_);go_simp;refine hK.out _ _ (hq) (fun hHeld=>?_);clear hK K)
         refine wpAnyH_done (by kernel_rfl) ?_ _
         have K2:=hide (G2.out.below hq G2.out.lt)
         have K3:=hide (G3.out.below hq G3.out.lt)
         have KW:=hide (GW.out.trans (hq.mono GW.out.size))
         clear hHeld hb1 hq hu hi1 hi2
        ·go_wp2
         go_ret
         exact ⟨ret_eq (by rw [HD.out (fun e=>by rw [eqB_true e] at HSS;cases HSS.out)];rfl),KW.out⟩
        ·go_wp2_with fail
         exact ⟨⟨j+1,by go_num,by omega,HT.out (eqB_iff.1 HSS.out),K2.out,K3.out,KW.out⟩,by simp [intOf];omega⟩
       ·have HE:Hid (eqB a b=true):=hide (by
         have:=GE.out
         rw [List.take_of_length_le (by omega),List.take_of_length_le (by rw [← H6.out];omega)] at this
         exact eqB_true ((DVal.ext_iff' a b).2 ⟨H1.out,H2.out,H3.out,HEN.out,HEI.out,this⟩))
        go_wp2
        go_ret
        exact ⟨ret_eq (by rw [HE.out];rfl),GW.out⟩

theorem flat_get {n:Nat}:∀ {Cs:List (List Value)} {i j:Nat} {C:List Value},(∀ D∈Cs,D.length=n)→Cs[i]? = some C→j<n→Cs.flatten[i * n+j]? = C[j]?
 | [],i,j,C,_,hi,_=>by simp at hi
 | D::Cs,0,j,C,hl,hi,hj=>by
  have e:D=C:=by simpa using hi
  subst e
  have h1:=hl D (by simp)
  rw [List.flatten_cons,List.getElem?_append_left (by omega)]
  simp
 | D::Cs,i+1,j,C,hl,hi,hj=>by
  have h1:=hl D (by simp)
  have:=flat_get (n:=n) (Cs:=Cs) (i:=i) (j:=j) (C:=C) (fun x hx=>hl x (by simp [hx])) (by simpa using hi) hj
  rw [List.flatten_cons,List.getElem?_append_right (by rw [Nat.add_mul];omega),← this]
  congr 1
  rw [Nat.add_mul];omega
theorem reads_blk {w:World} {g:Nat} {t:TypeId} {size n:Nat} {cs:List Value} (hb:Blk w g t cs.toArray) (hl:cs.length=n * size):Reads w w.heap.size size (some ⟨g,0,none⟩) n cs :=
 ⟨hl,fun _=>⟨g,0,rfl,hb.lt,fun j u hu=>by rw [Nat.zero_add,hb.cell];simpa using hu⟩⟩
theorem own_cells {w:World} {base:Nat} {e:TypeId} {size n c:Nat} {A:Option Addr} {xs:List Value} (h:w.ownsRow base e size (.slice A n c) n xs):RF w (fun b=>(Value.slice A n c).ownBlock=some b) size A n xs:=by
 refine ⟨h.1,fun hn=>?_⟩
 obtain ⟨g,cap,hv,_,hlt⟩:=h.form hn
 have hA:A=some ⟨g,0,none⟩:=by injection hv
 subst hA
 exact ⟨g,0,rfl,rfl,fun j u hu=>by have:=h.cells (g:=g) rfl j u hu;rwa [Addr.add_lit] at this⟩
theorem own_cap {w:World} {base:Nat} {e:TypeId} {size n c:Nat} {A:Option Addr} {xs:List Value} (h:w.ownsRow base e size (.slice A n c) n xs):n≤c:=by
 rcases h.2 with ⟨hv,h0⟩ | ⟨g,cap,cur,hv,_,_,hnc,_⟩
 ·omega
 ·have:c=cap:=by injection hv
  omega

section
variable {w w' : World} {B g : Nat} {kd n : Int} {s : Str} {names : List Str} {parts : List DVal} {An Ap : Option Addr} {cn cp : Nat}
end

structure TreeLike {D:Type} (size:Nat) (Is:World→(Nat→Prop)→D→List Value→Prop):Prop where
 pos:0<size
 keep:∀ {w w':World} {F:Nat→Prop} {d:D} {C:List Value},Is w F d C→(∀ q:Addr,F q.block→w'.cell? q=w.cell? q)→Is w' F d C
 mono:∀ {w:World} {F G:Nat→Prop} {d:D} {C:List Value},Is w F d C→(∀ k,F k→G k)→Is w G d C
 length:∀ {w:World} {F:Nat→Prop} {d:D} {C:List Value},Is w F d C→C.length=size
 one:∀ {w:World} {F:Nat→Prop} {d:D} {C:List Value},Is w F d C→∀ v∈C,v.oneCell'=true
theorem treeSch:TreeLike 3 IsSch:=⟨by omega,fun h k=>h.keep k,fun h k=>h.mono k,fun h=>h.length,fun h=>h.one⟩
structure RB {D:Type} (t:TypeId) (size:Nat) (Is:World→(Nat→Prop)→D→List Value→Prop) (w:World) (B:Nat) (A:Option Addr) (c:Nat) (ds:List D) (Cs:List (List Value)):Prop where
 hl:Cs.length=ds.length
 h3:∀ C∈Cs,C.length=size
 h1:∀ C∈Cs,∀ v∈C,v.oneCell'=true
 own:w.ownsRow B t size (.slice A ds.length c) ds.length Cs.flatten
 is:∀ (i:Nat) (p:D),ds[i]? = some p→∃ C,Cs[i]? = some C∧Is w (fun b=>B≤b∧b<w.heap.size∧(Value.slice A ds.length c).ownBlock ≠ some b) p C

section
variable {D : Type} {t : TypeId} {size : Nat} {Is : World → (Nat → Prop) → D → List Value → Prop} {w w' : World} {B : Nat} {A : Option Addr} {c : Nat} {ds : List D} {Cs : List (List Value)}
theorem RB.nil (T:TreeLike size Is) (w:World) (B:Nat):RB t size Is w B none 0 ([]:List D) [] :=
 ⟨rfl,fun _ h=>(by cases h),fun _ h=>(by cases h),World.ownsRow_nil _ _ _ _,fun i p hp=>by simp at hp⟩
theorem RB.keep (T:TreeLike size Is) (h:RB t size Is w B A c ds Cs) (hf:Below w.heap.size w w'):RB t size Is w' B A c ds Cs :=
 ⟨h.hl,h.h3,h.h1,own_below' h.own hf,fun i p hp=>by
  obtain ⟨C,hC,hv⟩:=h.is i p hp
  exact ⟨C,hC,T.mono (T.keep hv fun q hq=>hf.cell hq.2.1) fun b hb=>⟨hb.1,Nat.lt_of_lt_of_le hb.2.1 hf.size,hb.2.2⟩⟩⟩
theorem RB.app (T:TreeLike size Is) {m:Nat} {A':Option Addr} {c':Nat} {x:D} {C:List Value} (h:RB t size Is w B A c ds Cs) (hm:ds.length=m)
  (hx:Is w (fun b=>B≤b∧b<w.heap.size∧(Value.slice A m c).ownBlock ≠ some b) x C)
  (hown:w'.ownsRow B t size (.slice A' (m+1) c') (m+1) (Cs.flatten++C)) (hgr:w.grownBy w' (Value.slice A m c).ownBlock)
  (hlie:(Value.slice A' (m+1) c').ownBlock=(Value.slice A m c).ownBlock∨(Value.slice A' (m+1) c').ownBlock=some w.heap.size) :
  RB t size Is w' B A' c' (ds++[x]) (Cs++[C]):=by
 subst hm
 have hlen:(ds++[x]).length=ds.length+1:=by simp
 have keepV:∀ (p:D) (E:List Value),Is w (fun b=>B≤b∧b<w.heap.size∧(Value.slice A ds.length c).ownBlock ≠ some b) p E→Is w' (fun b=>B≤b∧b<w'.heap.size∧(Value.slice A' (ds.length+1) c').ownBlock ≠ some b) p E:=by
  intro p E hv
  refine T.mono (T.keep hv fun q hq=>World.cell?_of_block (hgr.block q.block hq.2.1 (fun e=>hq.2.2 e.symm))) fun b hb=>⟨hb.1,Nat.lt_of_lt_of_le hb.2.1 hgr.size,?_⟩
  rcases hlie with e | e <;> rw [e]
  ·exact hb.2.2
  ·intro e;injection e with e;have:=hb.2.1;omega
 refine ⟨by simp [h.hl],?_,?_,?_,fun i p hp=>?_⟩
 ·intro E hE
  rcases List.mem_append.1 hE with hE | hE
  ·exact h.h3 E hE
  ·rw [List.mem_singleton.1 hE];exact T.length hx
 ·intro E hE
  rcases List.mem_append.1 hE with hE | hE
  ·exact h.h1 E hE
  ·rw [List.mem_singleton.1 hE];exact T.one hx
 ·rw [hlen,List.flatten_append]
  simpa using hown
 ·rw [hlen]
  have hl:=h.hl
  by_cases hi:i<ds.length
  ·rw [List.getElem?_append_left hi] at hp
   obtain ⟨E,hE,hv⟩:=h.is i p hp
   exact ⟨E,by rw [List.getElem?_append_left (by omega)];exact hE,keepV p E hv⟩
  ·have hil:i=ds.length:=by
    have:=(List.getElem?_eq_some_iff.1 hp).1
    simp at this;omega
   subst hil
   rw [List.getElem?_append_right (Nat.le_refl _)] at hp
   simp at hp
   subst hp
   exact ⟨C,by rw [← hl,List.getElem?_append_right (Nat.le_refl _)];simp,keepV _ _ hx⟩
theorem RB.done (T:TreeLike size Is) (h:RB t size Is w B A c ds Cs):∃ b o,∃ C:Nat→List Value,(0<ds.length→A=some ⟨b,o,none⟩∧(B≤b∧b<w.heap.size)) ∧
  (∀ (i:Nat) (p:D),ds[i]? = some p→(C i).length=size∧w.rangeAt b (o+i * size) (C i))∧(∀ (i:Nat) (p:D),ds[i]? = some p→Is w (fun b=>B≤b∧b<w.heap.size) p (C i))∧ds.length≤c:=by
 have hrp:=own_cells h.own
 rcases Nat.eq_zero_or_pos ds.length with h0 | h0
 ·have hp0:ds=[]:=List.eq_nil_of_length_eq_zero h0
  subst hp0
  exact ⟨0,0,fun _=>[],fun h=>absurd h (by simp),fun i p hp=>(by simp at hp),fun i p hp=>(by simp at hp),own_cap h.own⟩
 ·obtain ⟨b,o,hA,hFb,hc⟩:=hrp.2 h0
  have hFb':=h.own.lt b hFb
  refine ⟨b,o,fun i=>Cs.getD i [],fun _=>⟨hA,hFb'⟩,fun i p hp=>?_,fun i p hp=>?_,own_cap h.own⟩
  ·obtain ⟨C,hC,hv⟩:=h.is i p hp
   have e:(fun i=>Cs.getD i []) i=C:=by simp [List.getD,hC]
   rw [e]
   refine ⟨T.length hv,fun j v hj=>?_⟩
   have hj6:j<size:=by rw [← T.length hv];exact (List.getElem?_eq_some_iff.1 hj).1
   have:=flat_get h.h3 hC hj6
   rw [Nat.add_assoc]
   exact hc (i * size+j) v (this.trans hj)
  ·obtain ⟨C,hC,hv⟩:=h.is i p hp
   have e:(fun i=>Cs.getD i []) i=C:=by simp [List.getD,hC]
   rw [e]
   exact T.mono hv fun b hb=>⟨hb.1,hb.2.1⟩
end

def NewSch (s:DSch) (w:World) (e:Ending) (w':World):Prop:=∃ cs:List Value,e=.returned (.agg cs.toArray)∧IsSch w' (fun b=>w.heap.size≤b∧b<w'.heap.size) s cs∧Below w.heap.size w w'
theorem info_strK:(Tryz.prog.info? 9).map (fun i=>(i.zero,i.size,i.bytes))=some (some (sv []),1,16):=by kernel_rfl
theorem info_schK:(Tryz.prog.info? 25).map (fun i=>(i.zero,i.size,i.bytes))=some (some (.agg #[.int .i64 0,.slice none 0 0,.slice none 0 0]),3,56):=by kernel_rfl
theorem info_schS:(Tryz.prog.info? 25).map (·.size)=some 3:=by kernel_rfl

set_option maxHeartbeats 2000000 in
set_option maxRecDepth 20000 in
theorem schCopy_calls (k:Nat):∀ (s:DSch) (cs:List Value) (w:World),s.depth≤k→s.weight≤1000000→IsSch w (·<w.heap.size) s cs →
  Calls Tryz.prog 44 #[.agg cs.toArray] w (NewSch s w):=by
 induction k with
 | zero=>intro s cs w h;have:=s.depth_pos;omega
 | succ k ih =>
  intro s cs w hk hwt hs
  have HDP:=hide (fun p (h:p∈s.parts)=>DSch.depth_part h)
  have HWP:=hide (fun p (h:p∈s.parts)=>DSch.weight_part h)
  have hww:=s.words_weight
  have hpw:=s.parts_weight
  have HI:=hide ih
  obtain ⟨Ap',cp',C',hp1',_,_,hP',hA'⟩:=hs.partsF
  cases hs with
  | @mk kind words parts Aw Ap cw cp b o C hki hw hz hcw hmw hA hC hP hcp hmp =>
  simp only [DSch.words,DSch.parts] at *
  obtain ⟨rfl,rfl⟩:Ap'=Ap∧cp'=cp:=by simpa [eq_comm] using hp1'
  have HPA:=hide hA'
  have HPP:=hide hP'
  have HKI:=hide hki
  have HZ:=hide hz
  have HW:=hide hw
  clear ih hA hC hP hA' hP' hz hw hki hp1'
  obtain ⟨i9,hi9,hz9,hs9,hb9⟩:=info_parts info_strK
  obtain ⟨i25,hi25,hz25,hs25,hb25⟩:=info_parts info_schK
  have HW0:=hide (((Below.refl w.heap.size w).alloc (Nat.le_refl _) (.cells #[.int .i64 kind,.slice Aw words.length cw,.slice Ap' parts.length cp'] 25)))
  have HX:=hide (Blk.new w 25 #[.int .i64 kind,.slice Aw words.length cw,.slice Ap' parts.length cp'])
  have hRD:=HW.out.reads (B:=w.heap.size) (fun _ h=>h)
  have HRD:=hide hRD
  clear hRD
  go_enter Tryz.func44,Tryz.ntmps44
  go_upto_region 1 with fail
  go_cut [8] (fun v wx=>∃ (Aq:Option Addr) (cq:Nat),v=.slice Aq words.length cq∧wx.ownsRow (w.heap.size+1+1) 9 1 (.slice Aq words.length cq) words.length (words.map sv)∧Blk wx w.heap.size 25 #[.int .i64 kind,.slice Aq words.length cq,.slice Ap' parts.length cp']∧(∃ Z:Array Value,Z.size=3∧Blk wx (w.heap.size+1) 25 Z)∧Below w.heap.size w wx)
  case first =>
   have HW1:=hide (HW0.out.alloc (by simp) (.cells #[.int .i64 0,.slice none 0 0,.slice none 0 0] 25))
   have HX1:=hide (HX.out.alloc (.cells #[.int .i64 0,.slice none 0 0,.slice none 0 0] 25))
   have HZ1:=hide (Blk.new2 w (.cells #[.int .i64 kind,.slice Aw words.length cw,.slice Ap' parts.length cp'] 25) 25 #[.int .i64 0,.slice none 0 0,.slice none 0 0])
   have HRE:=hide ((HRD.out.keep (fun p hp=>HW1.out.cell hp)))
   go_wp2_with (first
    | (at_builtin;refine wpList_append_any _ rfl _ _ 22 rfl _ 9 i9 (sv []) 1 16 Tryz.underlying22 hi9 hz9 hs9 hb9 rfl (by decide) (.slice none 0 0) 0 [] (by rfl) (World.ownsRow_nil _ (w.heap.size+1+1) _ _) _ _ words.length _ (words.map sv) (by rfl) HRE.out (by intro u hu;obtain ⟨x,_,rfl⟩:=List.mem_map.1 hu;rfl) (by unfold maxLen;omega) (by omega) (by simp) ?_;intro Aq cq wq ownq growq lieq;simp only [Nat.zero_add,List.nil_append] at ownq ⊢;have HBK:=hide (HX1.out.grown growq (by simp [Value.ownBlock]));have f3:=HBK.out.frozen 1;have e3:=HBK.out.cell 1;have HOW:=hide ownq;have HGQ:=hide growq;have HLI:=hide lieq;clear ownq growq lieq)
    | fail)
   go_meet
   have hF:Fr (fun k=>k=w.heap.size) wq (wq.setCell ⟨w.heap.size,1,none⟩ (.slice Aq words.length cq)):=(Fr.refl (fun k=>k=w.heap.size) wq).setCell (p:=⟨w.heap.size,1,none⟩) (.inl rfl) _
   refine ⟨Aq,cq,rfl,own_fr HOW.out hF (fun q hk e=>by have:=(HOW.out.lt q hk).1;omega),by simpa using HBK.out.set_ 1 (.slice Aq words.length cq),⟨_,rfl,(HZ1.out.grown HGQ.out (by simp [Value.ownBlock])).fr hF (by omega)⟩,?_⟩
   exact ((HW1.out.grown HGQ.out (by simp;omega) (fun b hb=>by simp [Value.ownBlock] at hb))).trans (hF.below (by have:=HBK.out.lt;omega) fun x hx h=>by omega)
  case rest =>
   obtain ⟨Aq,cq,rfl,hwo,h1,⟨Z,hZ,h2⟩,hw⟩:=hcut
   have HWO:=hide hwo
   have G1:=hide h1
   have G2:=hide h2
   have GZ:=hide hZ
   have GW:=hide hw
   have hlt1:=h2.lt
   clear hwo h1 h2 hw hZ HX HW0
   have c2:wc.cell? ⟨w.heap.size,2,none⟩=some (.slice Ap' parts.length cp'):=G1.out.cell 2
   go_wp2_with fail
   go_loopw [3,13] (fun rv iv wr=>∃ (j:Nat) (A:Option Addr) (c:Nat) (Cs:List (List Value)),rv=.slice A j c∧iv=.int .i64 j∧j≤parts.length∧RB 25 3 IsSch wr wc.heap.size A c (parts.take j) Cs∧Below wc.heap.size wc wr) (fun _ i _=>parts.length - (intOf i).toNat)
   case atStart=>exact ⟨0,none,0,[],rfl,rfl,Nat.zero_le _,RB.nil treeSch _ _,Below.refl _ _⟩
   case round =>
    clear c2
    obtain ⟨j,A,c,Cs,rfl,rfl,hj,hrb,hw⟩:=hrel
    obtain ⟨wo,rfl⟩:∃ wo:World,wo=wr:=⟨_,rfl⟩
    have KW:=hide hw
    have HRB:=hide hrb
    have hlj:(parts.take j).length=j:=by simp;omega
    have HLJ:=hide hlj
    clear hw hrb hlj
    by_cases hlt:j<parts.length
    ·obtain ⟨x,o5,rfl,hx,hC⟩:=HPA.out (by omega)
     obtain ⟨hl3,hr⟩:=hC j hlt
     have HPI:=hide (HPP.out j _ (List.getElem?_eq_getElem hlt))
     have HGO:=hide (GW.out.trans (KW.out.mono GW.out.size))
     have HRW:Hid (wo.rangeAt x (o5+j * 3) (C' j)):=hide fun q v hv=>(HGO.out.cell (p:=⟨x,o5+j * 3+q,none⟩) hx).trans (hr q v hv)
     have HL3:=hide hl3
     have HONE:=hide (HPI.out.one)
     have hdp:=HDP.out _ (List.getElem_mem hlt)
     have hwp:=HWP.out _ (List.getElem_mem hlt)
     have HT:=hide (List.take_succ_eq_append_getElem hlt)
     clear hC hl3 hr
     generalize parts[j]=pj at *
     generalize C' j=Cj at *
     have hst:=fun (W:World)=>run_store_new (P:=Tryz.prog) W 25 [.int .i64 0,.slice none 0 0,.slice none 0 0] Cj (by rw [HL3.out];rfl) HONE.out
     go_wp2_with (first
      | (refine wpList_load_mid rfl 25 _ rfl x (o5+j * 3) rfl Cj _ HRW.out rfl rfl (by rw [HL3.out];kernel_rfl) ?_)
      | (refine wpList_load_blk rfl 25 _ rfl _ rfl _ _ (Blk.new _ _ _) _ rfl rfl (by rw [List.size_toArray,HL3.out];kernel_rfl) ?_)
      | fail)
     have K6:=hide ((Below.refl wo.heap.size wo).alloc (Nat.le_refl _) (.cells Cj.toArray 25))
     clear HRW
     refine (HI.out pj Cj _ (by omega) (by omega) (HPI.out.more (HGO.out.trans (K6.out.mono HGO.out.size)))).mono ?_
     rintro e w1 ⟨cs1,rfl,hv1,hb1⟩
     have HB1:=hide (K6.out.trans (hb1.mono K6.out.size))
     have HV1:=hide (hv1.mono (G:=fun b=>wo.heap.size≤b∧b<w1.heap.size) fun b hb=>⟨Nat.le_trans (by simp) hb.1,hb.2⟩)
     have H1L:=hide hv1.length
     have H1O:=hide hv1.one
     clear hv1 hb1
     have V2:=hide (HRB.out.keep treeSch (HB1.out.alloc HB1.out.size (.cells cs1.toArray 25)))
     have HOW:=hide (V2.out.own)
     rw [HLJ.out] at HOW
     have hRD:=reads_blk (n:=1) (size:=3) (Blk.new w1 25 cs1.toArray) (by rw [H1L.out])
     have HRD1:=hide hRD
     clear hRD
     have hs1:=HB1.out.size
     have hs2:=KW.out.size
     go_wp2_with (first
      | (rw [foldl_zip_all _ _ (by rw [H1L.out];rfl),if_neg (by rw [H1L.out];decide)])
      | (at_builtin;refine wpList_append_any _ rfl _ _ 23 rfl _ 25 i25 (.agg #[.int .i64 0,.slice none 0 0,.slice none 0 0]) 3 56 Tryz.underlying23 hi25 hz25 hs25 hb25 rfl (by decide) _ j Cs.flatten (by rfl) HOW.out _ _ 1 _ cs1 (by rfl) HRD1.out H1O.out (by unfold maxLen;omega) (by omega) (by simp only [World.size_alloc];omega) ?_;intro Aq2 cq2 wq2 ownq growq lieq;have HOQ:=hide ownq;have HGQ:=hide growq;have HLI:=hide lieq;clear ownq growq lieq)
      | fail)
     have hOW0:=HRB.out.own
     rw [HLJ.out] at hOW0
     have hx1:IsSch (w1.alloc (.cells cs1.toArray 25)) (fun b=>wc.heap.size≤b∧b<(w1.alloc (.cells cs1.toArray 25)).heap.size∧(Value.slice A j c).ownBlock ≠ some b) pj cs1 :=
      (HV1.out.keep fun q hq=>((Below.refl w1.heap.size w1).alloc (Nat.le_refl _) (.cells cs1.toArray 25)).cell hq.2).mono fun b hb=>⟨by omega,by simp only [World.size_alloc];omega,fun e=>by have:=(hOW0.lt _ e).2;omega⟩
     exact ⟨⟨j+1,Aq2,cq2,Cs++[cs1],rfl,by go_num,by omega,by rw [HT.out];exact V2.out.app treeSch HLJ.out hx1 HOQ.out HGQ.out HLI.out,(((KW.out.trans (HB1.out.mono hs2)).alloc (by omega) _).grown HGQ.out (by simp only [World.size_alloc];omega) (fun b hb=>(hOW0.lt _ hb).1))⟩,by simp [intOf];omega⟩
    ·obtain rfl:j=parts.length:=by omega
     have HR2:Hid (RB 25 3 IsSch wo wc.heap.size A c parts Cs):=hide (by have:=HRB.out;rwa [List.take_length] at this)
     have K1:=hide (G1.out.below KW.out (by omega))
     have K2:=hide (G2.out.below KW.out (by omega))
     have c2:wo.cell? ⟨w.heap.size,2,none⟩=some (.slice Ap' parts.length cp'):=K1.out.cell 2
     have f2:wo.frozen? ⟨w.heap.size,2,none⟩=false:=K1.out.frozen 2
     have K1S:=hide (K1.out.set_ 2 (.slice A parts.length c))
     have K2F:=hide (K2.out.far (p:=⟨w.heap.size,2,none⟩) (by simp) (.slice A parts.length c))
     go_wp2_with (first
      | (refine wpList_load_blk rfl 25 _ rfl _ rfl _ _ (K1S.out) _ rfl rfl info_schS ?_)
      | (refine wpList_store_blk rfl 25 _ _ rfl _ rfl #[.int .i64 kind,.slice Aq words.length cq,.slice A parts.length c] rfl _ _ (K2F.out) (by rw [GZ.out] <;> rfl) info_schS (by simp [Value.oneCell']) ?_;intro wf hbf hff;have HBF:=hide hbf;have HFF:=hide hff;clear hbf hff)
      | fail)
     refine bodyPost_ret (results_cell_row rfl _ _ (w.heap.size+1) 25 #[.int .i64 kind,.slice Aq words.length cq,.slice A parts.length c] (0,0) _ rfl HBF.out rfl rfl info_schS) rfl ?_
     have HFS:Hid (Fr (fun b=>w.heap.size≤b∧b<w.heap.size+1+1) wo wf):=hide (((Fr.refl (fun b=>w.heap.size≤b∧b<w.heap.size+1+1) wo).setCell (p:=⟨w.heap.size,2,none⟩) (.inl (by show w.heap.size≤w.heap.size∧w.heap.size<_;omega)) _).trans (HFF.out.mono fun k _ hk=>.inl (by omega)))
     have hsf:=HFS.out.size
     have hsw:=KW.out.size
     obtain ⟨b',o',C2,q1,q2,q3,q4⟩:=HR2.out.done treeSch
     have hwd:RF wf (fun b=>w.heap.size≤b∧b<wf.heap.size) 1 Aq words.length (words.map sv):=by
      have h1:=own_cells HWO.out
      refine (h1.keep fun q hq=>?_).mono fun b hb=>?_
      ·have:=HWO.out.lt _ hq
       exact (HFS.out.cell (p:=q) (by omega) (by omega)).trans (KW.out.cell (by omega))
      ·have:=HWO.out.lt _ hb
       omega
     refine ⟨_,rfl,.mk HKI.out hwd HZ.out (own_cap HWO.out) (by omega) (fun h=>⟨(q1 h).1,⟨by have:=(q1 h).2;omega,by have:=(q1 h).2;omega⟩⟩) (fun i p hp=>⟨(q2 i p hp).1,fun j v hv=>?_⟩) (fun i p hp=>((q3 i p hp).keep fun q hq=>HFS.out.cell hq.2 (by have:=hq.1;omega)).mono fun b hb=>by omega) q4 (by omega),?_⟩
     ·have h0:=(q1 (by have:=(List.getElem?_eq_some_iff.1 hp).1;omega)).2
      exact (HFS.out.cell (p:=⟨b',o'+i * 3+j,none⟩) h0.2 (by show ¬ (_≤b'∧b'<_);omega)).trans ((q2 i p hp).2 j v hv)
     ·exact (GW.out.trans (KW.out.mono GW.out.size)).trans (HFS.out.below (by omega) fun x hx h=>by omega)

set_option maxHeartbeats 1000000 in
set_option maxRecDepth 20000 in
theorem refRight_calls (k:Nat) (s:DSch) (cs:List Value) (w:World) (hk:s.depth≤k) (hkk:k≤1000000) (hs:IsSch w (·<w.heap.size) s cs) :
  Calls Tryz.prog 49 #[.agg cs.toArray] w (Gives (.bool (rightS 5 s)) w):=by
 have HW0:=hide ((Below.refl w.heap.size w).alloc (Nat.le_refl _) (.cells cs.toArray 25))
 have HX:=hide (Blk.new w 25 cs.toArray)
 have HL:=hide (show (Tryz.prog.info? 25).map (·.size)=some cs.toArray.size by rw [List.size_toArray,hs.length];kernel_rfl)
 have HC:=hide (refSchDepth_calls k s cs _ hk hkk (hs.more HW0.out))
 have HS:=hide hs
 have HR:=hide (right_sound 5 s k hk)
 clear hs
 by_cases h5:s.depth≤5
 case neg =>
  have e5:¬ ((s.depth:Int)≤5):=by omega
  rw [decide_eq_false h5,Bool.false_and] at HR
  go_enter Tryz.func49,Tryz.ntmps49
  go_wp2_with (first | (refine wpList_load_blk rfl 25 _ rfl _ rfl _ _ HX.out _ rfl rfl HL.out ?_) | fail)
  refine HC.out.mono ?_
  rintro e w1 ⟨rfl,hb1⟩
  have KW:=hide (HW0.out.trans (hb1.mono HW0.out.size))
  clear hb1
  go_wp2
  go_ret
  exact ⟨ret_eq (by rw [HR.out];rfl),KW.out⟩
 case pos =>
  have e5:((s.depth:Int)≤5):=by omega
  rw [decide_eq_true h5,Bool.true_and] at HR
  go_enter Tryz.func49,Tryz.ntmps49
  go_wp2_with (first | (refine wpList_load_blk rfl 25 _ rfl _ rfl _ _ HX.out _ rfl rfl HL.out ?_) | fail)
  refine HC.out.mono ?_
  rintro e w1 ⟨rfl,hb1⟩
  have hsz:=HX.out.lt
  have K1:=hide (HX.out.below hb1 hsz)
  have KW:=hide (HW0.out.trans (hb1.mono HW0.out.size))
  have HC2:=hide (refSound_calls k s cs w1 hk (HS.out.more KW.out))
  clear hb1 HX HW0 HC
  go_wp2_with (first | (refine wpList_load_blkG rfl 25 _ rfl _ rfl _ _ K1.out _ rfl rfl HL.out ?_) | fail)
  refine HC2.out.mono ?_
  rintro e w2 ⟨rfl,hb2⟩
  have KW2:=hide (KW.out.trans (hb2.mono KW.out.size))
  clear hb2
  go_wp2
  go_ret
  exact ⟨ret_eq (by rw [HR.out];rfl),KW2.out⟩
end Go.Proofs.YtogbklnkpjjkoaaGreatDoor
namespace Go.Proofs.YtogbklnkpjjkoaaGreatDoor

def b8 (n:Nat):UInt8:=UInt8.ofNat n
end Go.Proofs.YtogbklnkpjjkoaaGreatDoor
namespace Go.Proofs.YtogbklnkpjjkoaaGreatDoor
open Go.RowKit

def mo:Bool:=false
inductive Own where
 | no
 | full
 | row (g:Nat)
inductive D where
 | v (x:Value)
 | agg (cs:List D)
 | tup (cs:List D)
 | fn (f:Fn) (fs cs:List D)
 | ifc (t:TypeId) (d:D)
 | loc (k off:Nat)
 | rd (cs:List D) (off:Nat)
 | sl (o:Own) (es:List D)
 | win (k off n c:Nat)
inductive Ob where
 | box (t:TypeId) (cs:List D)
 | row (e:TypeId) (n:Nat)
 | mp (b:Nat) (l:List (Value × Value))
structure St where
 next:Nat
 ob:Nat→Option Ob

abbrev undefD:D:=.tup []
def D.isAgg:D→Bool
 | .agg _=>true
 | _=>false
def D.cells:D→List D
 | .agg cs=>cs
 | d=>[d]
def D.width (d:D):Nat:=d.cells.length
def szOf (P:Program) (t:TypeId):Nat:=((P.info? t).map (·.size)).getD 0

abbrev Names:=Nat→Option (Option Nat)

def Fix (P:Program) (S:St) (η:Names) (b i:Nat):Prop:=∀ k o,η k=some (some b)→S.ob k=some o→match o with
 | .box _ _=>False
 | .row e n=>i<n * szOf P e
 | .mp _ _=>False

section
variable (P : Program) (w : World) (η : Names) (X : Nat → Nat → Prop)
def OwnAt (A:Option Addr) (n c:Nat):Own→Prop
 | .no=>True
 | .full=>c=n
 | .row g=>(η g=some none∧c=n)∨∃ (b:Nat) (cur:Array Value) (e:TypeId),η g=some (some b)∧A=some ⟨b,0,none⟩∧w.heap[b]? = some (.cells cur e (0,0))∧cur.size=c * szOf P e
mutual
def Rep:D→Value→Prop
 | .v x,y=>y=x
 | .agg cs,y=>∃ vs:List Value,y=.agg vs.toArray∧RepL cs vs∧∀ x∈vs,x.oneCell'=true
 | .tup cs,y=>∃ vs:List Value,y=.tuple vs.toArray∧RepL cs vs
 | .fn f fs cs,y=>∃ us vs:List Value,y=.func f us.toArray vs.toArray∧RepL fs us∧RepL cs vs
 | .ifc t d,y=>∃ x,y=.iface t x∧Rep d x
 | .loc k off,y=>∃ b,η k=some (some b)∧y=.pointer (some ⟨b,off,none⟩)
 | .rd cs off,y=>∃ b o,y=.pointer (some ⟨b,o+off,none⟩)∧RepC cs b o
 | .sl own es,y=>∃ A c,y=.slice A es.length c∧es.length≤c∧es.length≤140737488355328∧OwnAt P w η A es.length c own∧(0<es.length→∃ b o z,A=some ⟨b,o,none⟩∧0<z∧RepE z es b o)
 | .win k off n c,y=>(∃ b,η k=some (some b)∧y=.slice (some ⟨b,off,none⟩) n c∧n≤c∧n≤140737488355328)∨(η k=some none∧n=0∧c=0∧∃ A,y=.slice A 0 0)
def RepL:List D→List Value→Prop
 | [],vs=>vs=[]
 | d::ds,vs=>∃ x xs,vs=x::xs∧Rep d x∧RepL ds xs
def RepC:List D→Nat→Nat→Prop
 | [],_,_=>True
 | d::ds,b,o=>(X b o∧∃ x,w.cell? ⟨b,o,none⟩=some x∧x.oneCell'=true∧Rep d x)∧RepC ds b (o+1)
def RepE (z:Nat):List D→Nat→Nat→Prop
 | [],_,_=>True
 | d::ds,b,o=>(RepA z d b o∧(d.isAgg=false→z=1∧X b o∧∃ x,w.cell? ⟨b,o,none⟩=some x∧x.oneCell'=true∧Rep d x))∧RepE z ds b (o+z)
def RepA (z:Nat):D→Nat→Nat→Prop
 | .agg cs,b,o=>cs.length=z∧RepC cs b o
 | _,_,_=>True
end
end

def Own.all (N:Nat→Prop):Own→Prop
 | .row g=>N g
 | _=>True
mutual
def D.all (N:Nat→Prop):D→Prop
 | .v _=>True
 | .agg cs=>allL N cs
 | .tup cs=>allL N cs
 | .fn _ fs cs=>allL N fs∧allL N cs
 | .ifc _ d=>D.all N d
 | .loc k _=>N k
 | .rd cs _=>allL N cs
 | .sl o es=>o.all N∧allL N es
 | .win k _ _ _=>N k
def allL (N:Nat→Prop):List D→Prop
 | []=>True
 | d::ds=>D.all N d∧allL N ds
end
theorem allL_iff {N:Nat→Prop}:∀ {l:List D},allL N l↔∀ d∈l,d.all N
 | []=>by simp [allL]
 | d::l=>by simp [allL,allL_iff (l:=l)]
theorem Own.all_mono {N M:Nat→Prop} (h:∀ k,N k→M k) {o:Own} (ho:o.all N):o.all M:=by
 cases o <;> simp only [Own.all] at * <;> exact h _ ho
mutual
theorem D.all_mono {N M:Nat→Prop} (h:∀ k,N k→M k):∀ {d:D},d.all N→d.all M
 | .v _,hd=>trivial
 | .agg cs,hd=>by simp only [D.all] at *;exact allL_mono h hd
 | .tup cs,hd=>by simp only [D.all] at *;exact allL_mono h hd
 | .fn _ fs cs,hd=>by simp only [D.all] at *;exact ⟨allL_mono h hd.1,allL_mono h hd.2⟩
 | .ifc _ d,hd=>by simp only [D.all] at *;exact D.all_mono h hd
 | .loc k _,hd=>by simp only [D.all] at *;exact h _ hd
 | .rd cs _,hd=>by simp only [D.all] at *;exact allL_mono h hd
 | .sl o es,hd=>by simp only [D.all] at *;exact ⟨Own.all_mono h hd.1,allL_mono h hd.2⟩
 | .win k _ _ _,hd=>by simp only [D.all] at *;exact h _ hd
theorem allL_mono {N M:Nat→Prop} (h:∀ k,N k→M k):∀ {l:List D},allL N l→allL M l
 | [],_=>trivial
 | d::ds,hd=>by simp only [allL] at *;exact ⟨D.all_mono h hd.1,allL_mono h hd.2⟩
end
mutual
theorem D.all_true:∀ d:D,d.all (fun _=>True)
 | .v _=>trivial
 | .agg cs=>by simp only [D.all];exact allL_true cs
 | .tup cs=>by simp only [D.all];exact allL_true cs
 | .fn _ fs cs=>by simp only [D.all];exact ⟨allL_true fs,allL_true cs⟩
 | .ifc _ d=>by simp only [D.all];exact D.all_true d
 | .loc k _=>trivial
 | .rd cs _=>by simp only [D.all];exact allL_true cs
 | .sl o es=>by simp only [D.all];exact ⟨by cases o <;> trivial,allL_true es⟩
 | .win k _ _ _=>trivial
theorem allL_true:∀ l:List D,allL (fun _=>True) l
 | []=>trivial
 | d::ds=>by simp only [allL];exact ⟨D.all_true d,allL_true ds⟩
end

structure Keep (N:Nat→Prop) (w:World) (η:Names) (X:Nat→Nat→Prop) (w':World) (η':Names) (X':Nat→Nat→Prop):Prop where
 size:w.heap.size≤w'.heap.size
 fix:∀ b i,b<w.heap.size→X b i→X' b i∧w'.cell? ⟨b,i,none⟩=w.cell? ⟨b,i,none⟩
 eta:∀ k b,N k→η k=some b→η' k=some b
 shp:∀ (b:Nat) (cur:Array Value) (e:TypeId),w.heap[b]? = some (.cells cur e (0,0))→∃ cur':Array Value,w'.heap[b]? = some (.cells cur' e (0,0))∧cur'.size=cur.size

section
variable {P : Program} {N : Nat → Prop} {w : World} {η : Names} {X : Nat → Nat → Prop} {w' : World} {η' : Names} {X' : Nat → Nat → Prop}
theorem OwnAt.keep (K:Keep N w η X w' η' X') {A:Option Addr} {n c:Nat} {o:Own} (ho:o.all N) (h:OwnAt P w η A n c o):OwnAt P w' η' A n c o:=by
 cases o with
 | no=>trivial
 | full=>exact h
 | row g =>
  rcases h with h | ⟨b,cur,e,h1,h2,h3,h4⟩
  ·exact .inl ⟨K.eta _ _ ho h.1,h.2⟩
  ·obtain ⟨cur',h6,h7⟩:=K.shp _ _ _ h3
   exact .inr ⟨b,cur',e,K.eta _ _ ho h1,h2,h6,by rw [h7,h4]⟩
theorem Keep.cell (K:Keep N w η X w' η' X') {b i:Nat} {x:Value} (hx:X b i) (h:w.cell? ⟨b,i,none⟩=some x):X' b i∧w'.cell? ⟨b,i,none⟩=some x:=by
 have:=K.fix b i (World.block_lt_of_cell? w ⟨b,i,none⟩ h) hx
 exact ⟨this.1,this.2.trans h⟩
mutual
theorem Rep.keep (K:Keep N w η X w' η' X'):∀ {d:D} {y:Value},d.all N→Rep P w η X d y→Rep P w' η' X' d y
 | .v x,y,_,h=>by simp only [Rep] at *;exact h
 | .agg cs,y,hd,h=>by
  simp only [Rep,D.all] at *
  obtain ⟨vs,h1,h2,h3⟩:=h
  exact ⟨vs,h1,RepL.keep K hd h2,h3⟩
 | .tup cs,y,hd,h=>by
  simp only [Rep,D.all] at *
  obtain ⟨vs,h1,h2⟩:=h
  exact ⟨vs,h1,RepL.keep K hd h2⟩
 | .fn f fs cs,y,hd,h=>by
  simp only [Rep,D.all] at *
  obtain ⟨us,vs,h1,h2,h3⟩:=h
  exact ⟨us,vs,h1,RepL.keep K hd.1 h2,RepL.keep K hd.2 h3⟩
 | .ifc t d,y,hd,h=>by
  simp only [Rep,D.all] at *
  obtain ⟨x,h1,h2⟩:=h
  exact ⟨x,h1,Rep.keep K hd h2⟩
 | .loc k off,y,hd,h=>by
  simp only [Rep,D.all] at *
  obtain ⟨b,h1,h2⟩:=h
  exact ⟨b,K.eta _ _ hd h1,h2⟩
 | .rd cs off,y,hd,h=>by
  simp only [Rep,D.all] at *
  obtain ⟨b,o,h1,h3⟩:=h
  exact ⟨b,o,h1,RepC.keep K hd h3⟩
 | .sl own es,y,hd,h=>by
  simp only [Rep,D.all] at *
  obtain ⟨A,c,h1,h2,h3,h4,h5⟩:=h
  refine ⟨A,c,h1,h2,h3,h4.keep K hd.1,fun h0=>?_⟩
  obtain ⟨b,o,z,e1,e3,e4⟩:=h5 h0
  exact ⟨b,o,z,e1,e3,RepE.keep K z hd.2 e4⟩
 | .win k off n c,y,hd,h=>by
  simp only [Rep,D.all] at *
  rcases h with ⟨b,h1,h2⟩ | ⟨h1,h2⟩
  ·exact .inl ⟨b,K.eta _ _ hd h1,h2⟩
  ·exact .inr ⟨K.eta _ _ hd h1,h2⟩
theorem RepL.keep (K:Keep N w η X w' η' X'):∀ {l:List D} {vs:List Value},allL N l→RepL P w η X l vs→RepL P w' η' X' l vs
 | [],vs,_,h=>by simp only [RepL] at *;exact h
 | d::ds,vs,hd,h=>by
  simp only [RepL,allL] at *
  obtain ⟨x,xs,h1,h2,h3⟩:=h
  exact ⟨x,xs,h1,Rep.keep K hd.1 h2,RepL.keep K hd.2 h3⟩
theorem RepC.keep (K:Keep N w η X w' η' X'):∀ {l:List D} {b o:Nat},allL N l→RepC P w η X l b o→RepC P w' η' X' l b o
 | [],b,o,_,h=>by simp only [RepC] at *
 | d::ds,b,o,hd,h=>by
  simp only [RepC,allL] at *
  obtain ⟨⟨h1,x,h2,h3,h4⟩,h5⟩:=h
  obtain ⟨k1,k2⟩:=K.cell h1 h2
  exact ⟨⟨k1,x,k2,h3,Rep.keep K hd.1 h4⟩,RepC.keep K hd.2 h5⟩
theorem RepE.keep (K:Keep N w η X w' η' X') (z:Nat):∀ {l:List D} {b o:Nat},allL N l→RepE P w η X z l b o→RepE P w' η' X' z l b o
 | [],b,o,_,h=>by simp only [RepE] at *
 | d::ds,b,o,hd,h=>by
  simp only [RepE,allL] at *
  obtain ⟨⟨h1,h2⟩,h5⟩:=h
  refine ⟨⟨RepA.keep K z hd.1 h1,fun hn=>?_⟩,RepE.keep K z hd.2 h5⟩
  obtain ⟨e1,e2,x,e3,e4,e5⟩:=h2 hn
  obtain ⟨k1,k2⟩:=K.cell e2 e3
  exact ⟨e1,k1,x,k2,e4,Rep.keep K hd.1 e5⟩
theorem RepA.keep (K:Keep N w η X w' η' X') (z:Nat):∀ {d:D} {b o:Nat},d.all N→RepA P w η X z d b o→RepA P w' η' X' z d b o
 | .agg cs,b,o,hd,h=>by
  simp only [RepA,D.all] at *
  exact ⟨h.1,RepC.keep K hd h.2⟩
 | .v _,_,_,_,_=>by simp only [RepA]
 | .tup _,_,_,_,_=>by simp only [RepA]
 | .fn _ _ _,_,_,_,_=>by simp only [RepA]
 | .ifc _ _,_,_,_,_=>by simp only [RepA]
 | .loc _ _,_,_,_,_=>by simp only [RepA]
 | .rd _ _,_,_,_,_=>by simp only [RepA]
 | .sl _ _,_,_,_,_=>by simp only [RepA]
 | .win _ _ _ _,_,_,_,_=>by simp only [RepA]
end
theorem RepL.length:∀ {l:List D} {vs:List Value},RepL P w η X l vs→vs.length=l.length
 | [],vs,h=>by simp only [RepL] at h;simp [h]
 | d::ds,vs,h=>by
  simp only [RepL] at h
  obtain ⟨x,xs,rfl,_,h3⟩:=h
  simp [RepL.length h3]
theorem RepL.get:∀ {l:List D} {vs:List Value} (i:Nat) {d:D},RepL P w η X l vs→l[i]? = some d→∃ x,vs[i]? = some x∧Rep P w η X d x
 | [],vs,i,d,h,hi=>by simp at hi
 | d::ds,vs,i,d',h,hi=>by
  simp only [RepL] at h
  obtain ⟨x,xs,rfl,h2,h3⟩:=h
  cases i with
  | zero=>simp at hi;exact ⟨x,rfl,hi ▸ h2⟩
  | succ i=>simpa using RepL.get i h3 (by simpa using hi)
theorem RepL.append:∀ {l m:List D} {vs us:List Value},RepL P w η X l vs→RepL P w η X m us→RepL P w η X (l++m) (vs++us)
 | [],m,vs,us,h,k=>by simp only [RepL] at h;simpa [h] using k
 | d::ds,m,vs,us,h,k=>by
  simp only [RepL] at h
  obtain ⟨x,xs,rfl,h2,h3⟩:=h
  simp only [List.cons_append,RepL]
  exact ⟨x,xs++us,rfl,h2,RepL.append h3 k⟩
theorem RepL.drop:∀ {l:List D} {vs:List Value} (i:Nat),RepL P w η X l vs→RepL P w η X (l.drop i) (vs.drop i)
 | [],vs,i,h=>by simp only [RepL] at h;subst h;simp [RepL]
 | d::ds,vs,0,h=>h
 | d::ds,vs,i+1,h=>by
  simp only [RepL] at h
  obtain ⟨x,xs,rfl,h2,h3⟩:=h
  simpa using RepL.drop i h3
theorem RepL.take:∀ {l:List D} {vs:List Value} (i:Nat),RepL P w η X l vs→RepL P w η X (l.take i) (vs.take i)
 | [],vs,i,h=>by simp only [RepL] at h;subst h;simp [RepL]
 | d::ds,vs,0,h=>by simp [RepL]
 | d::ds,vs,i+1,h=>by
  simp only [RepL] at h
  obtain ⟨x,xs,rfl,h2,h3⟩:=h
  simp only [List.take_succ_cons,RepL]
  exact ⟨x,_,rfl,h2,RepL.take i h3⟩
theorem RepC.range:∀ {l:List D} {b o:Nat},RepC P w η X l b o→∃ vs,vs.length=l.length∧w.rangeAt b o vs∧RepL P w η X l vs∧∀ x∈vs,x.oneCell'=true
 | [],b,o,_=>⟨[],rfl,fun j v h=>by simp at h,by simp [RepL],fun x h=>by cases h⟩
 | d::ds,b,o,h=>by
  simp only [RepC] at h
  obtain ⟨⟨h1,x,h2,h3,h4⟩,h5⟩:=h
  obtain ⟨vs,k1,k2,k3,k4⟩:=RepC.range h5
  refine ⟨x::vs,by simp [k1],fun j v hj=>?_,by simp only [RepL];exact ⟨x,vs,rfl,h4,k3⟩,fun u hu=>?_⟩
  ·cases j with
   | zero=>simp at hj;rw [Nat.add_zero,h2,hj]
   | succ j=>have:=k2 j v (by simpa using hj);rwa [show o+1+j=o+(j+1) by omega] at this
  ·rcases List.mem_cons.1 hu with rfl | hu
   ·exact h3
   ·exact k4 u hu
theorem RepC.drop:∀ {l:List D} {b o:Nat} (i:Nat),RepC P w η X l b o→RepC P w η X (l.drop i) b (o+i)
 | [],b,o,i,_=>by simp [RepC]
 | d::ds,b,o,0,h=>h
 | d::ds,b,o,i+1,h=>by
  simp only [RepC] at h
  have:=RepC.drop i h.2
  rw [show o+1+i=o+(i+1) by omega] at this
  simpa using this
theorem RepC.take:∀ {l:List D} {b o:Nat} (i:Nat),RepC P w η X l b o→RepC P w η X (l.take i) b o
 | [],b,o,i,_=>by simp [RepC]
 | d::ds,b,o,0,h=>by simp [RepC]
 | d::ds,b,o,i+1,h=>by
  simp only [RepC] at h
  simp only [List.take_succ_cons,RepC]
  exact ⟨h.1,RepC.take i h.2⟩
theorem RepC.mk:∀ {l:List D} {vs:List Value} {b o:Nat},RepL P w η X l vs→w.rangeAt b o vs→(∀ j,j<vs.length→X b (o+j))→(∀ x∈vs,x.oneCell'=true)→RepC P w η X l b o
 | [],vs,b,o,_,_,_,_=>by simp [RepC]
 | d::ds,vs,b,o,h,hr,hx,h1=>by
  simp only [RepL] at h
  obtain ⟨x,xs,rfl,h2,h3⟩:=h
  simp only [RepC]
  refine ⟨⟨by simpa using hx 0 (by simp),x,by simpa using hr 0 x rfl,h1 x (by simp),h2⟩,RepC.mk h3 (fun j v hj=>?_) (fun j hj=>?_) (fun y hy=>h1 y (by simp [hy]))⟩
  ·have:=hr (j+1) v (by simpa using hj);rwa [show o+1+j=o+(j+1) by omega]
  ·have:=hx (j+1) (by simp;omega);rwa [show o+1+j=o+(j+1) by omega]
def RepEl (P:Program) (w:World) (η:Names) (X:Nat→Nat→Prop) (z:Nat) (d:D) (b o:Nat):Prop:=RepA P w η X z d b o∧(d.isAgg=false→z=1∧X b o∧∃ x,w.cell? ⟨b,o,none⟩=some x∧x.oneCell'=true∧Rep P w η X d x)
theorem RepEl.cells {z:Nat} {d:D} {b o:Nat} (h:RepEl P w η X z d b o):d.width=z∧RepC P w η X d.cells b o:=by
 obtain ⟨h1,h2⟩:=h
 cases hd:d.isAgg with
 | true =>
  cases d <;> simp [D.isAgg] at hd
  simp only [RepA] at h1
  exact ⟨h1.1,h1.2⟩
 | false =>
  obtain ⟨e1,e2,x,e3,e4,e5⟩:=h2 hd
  have hc:d.cells=[d]:=by cases d <;> simp [D.isAgg] at hd <;> rfl
  refine ⟨by rw [D.width,hc,e1];rfl,?_⟩
  rw [hc]
  simp only [RepC]
  exact ⟨⟨e2,x,e3,e4,e5⟩,trivial⟩
theorem RepEl.mk {d:D} {b o:Nat} (h:RepC P w η X d.cells b o):RepEl P w η X d.width d b o:=by
 cases hd:d.isAgg with
 | true =>
  cases d <;> simp [D.isAgg] at hd
  exact ⟨by simp only [RepA];exact ⟨rfl,h⟩,fun h'=>by simp [D.isAgg] at h'⟩
 | false =>
  have hc:d.cells=[d]:=by cases d <;> simp [D.isAgg] at hd <;> rfl
  have hw:d.width=1:=by rw [D.width,hc];rfl
  rw [hc] at h
  simp only [RepC] at h
  exact ⟨by cases d <;> simp [D.isAgg] at hd <;> simp only [RepA],fun _=>⟨hw,h.1.1,h.1.2⟩⟩
theorem RepE.cons {z:Nat} {d:D} {l:List D} {b o:Nat}:RepE P w η X z (d::l) b o↔RepEl P w η X z d b o∧RepE P w η X z l b (o+z):=by simp only [RepE,RepEl]
theorem RepE.get {z:Nat}:∀ {l:List D} {b o:Nat} (i:Nat) {d:D},RepE P w η X z l b o→l[i]? = some d→RepEl P w η X z d b (o+i * z)
 | [],b,o,i,d,h,hi=>by simp at hi
 | d::ds,b,o,0,d',h,hi=>by simp at hi;subst hi;simpa using (RepE.cons.1 h).1
 | d::ds,b,o,i+1,d',h,hi=>by
  have:=RepE.get i (RepE.cons.1 h).2 (by simpa using hi)
  rwa [show o+z+i * z=o+(i+1) * z by rw [Nat.add_mul];omega] at this
theorem RepE.mk {z:Nat}:∀ {l:List D} {b o:Nat},(∀ i d,l[i]? = some d→RepEl P w η X z d b (o+i * z))→RepE P w η X z l b o
 | [],b,o,h=>by simp [RepE]
 | d::ds,b,o,h=>RepE.cons.2 ⟨by simpa using h 0 d rfl,RepE.mk fun i d' hi=>by
   have:=h (i+1) d' (by simpa using hi)
   rwa [show o+z+i * z=o+(i+1) * z by rw [Nat.add_mul];omega]⟩
end

mutual
theorem Rep.names {P:Program} {w:World} {η:Names} {X:Nat→Nat→Prop}:∀ {d:D} {y:Value},Rep P w η X d y→d.all (fun k=>(η k).isSome=true)
 | .v x,y,_=>trivial
 | .agg cs,y,h=>by
  simp only [Rep] at h
  obtain ⟨vs,h1,h2,h3⟩:=h
  simp only [D.all]
  exact RepL.names h2
 | .tup cs,y,h=>by
  simp only [Rep] at h
  obtain ⟨vs,h1,h2⟩:=h
  simp only [D.all]
  exact RepL.names h2
 | .fn f fs cs,y,h=>by
  simp only [Rep] at h
  obtain ⟨us,vs,h1,h2,h3⟩:=h
  simp only [D.all]
  exact ⟨RepL.names h2,RepL.names h3⟩
 | .ifc t d,y,h=>by
  simp only [Rep] at h
  obtain ⟨x,h1,h2⟩:=h
  simp only [D.all]
  exact Rep.names h2
 | .loc k off,y,h=>by
  simp only [Rep] at h
  obtain ⟨b,h1,h2⟩:=h
  simp only [D.all,h1,Option.isSome_some]
 | .rd cs off,y,h=>by
  simp only [Rep] at h
  obtain ⟨b,o,h1,h3⟩:=h
  simp only [D.all]
  exact RepC.names h3
 | .sl own es,y,h=>by
  simp only [Rep] at h
  obtain ⟨A,c,h1,h2,h3,h4,h5⟩:=h
  simp only [D.all]
  refine ⟨?_,?_⟩
  ·cases own with
   | no=>trivial
   | full=>trivial
   | row g =>
    simp only [Own.all]
    rcases h4 with ⟨h4,_⟩ | ⟨b,cur,e,h4,_⟩ <;> rw [h4] <;> rfl
  ·rcases Nat.eq_zero_or_pos es.length with h0 | h0
   ·have:=List.eq_nil_of_length_eq_zero h0
    subst this
    simp only [allL]
   ·obtain ⟨b,o,z,e1,e3,e4⟩:=h5 h0
    exact RepE.names e4
 | .win k off n c,y,h=>by
  simp only [Rep] at h
  rcases h with ⟨b,h1,h2⟩ | ⟨h1,h2⟩ <;> simp only [D.all,h1,Option.isSome_some]
theorem RepL.names {P:Program} {w:World} {η:Names} {X:Nat→Nat→Prop}:∀ {l:List D} {vs:List Value},RepL P w η X l vs→allL (fun k=>(η k).isSome=true) l
 | [],vs,_=>trivial
 | d::ds,vs,h=>by
  simp only [RepL] at h
  obtain ⟨x,xs,h1,h2,h3⟩:=h
  simp only [allL]
  exact ⟨Rep.names h2,RepL.names h3⟩
theorem RepC.names {P:Program} {w:World} {η:Names} {X:Nat→Nat→Prop}:∀ {l:List D} {b o:Nat},RepC P w η X l b o→allL (fun k=>(η k).isSome=true) l
 | [],_,_,_=>trivial
 | d::ds,b,o,h=>by
  simp only [RepC] at h
  obtain ⟨⟨h1,x,h2,h3,h4⟩,h5⟩:=h
  simp only [allL]
  exact ⟨Rep.names h4,RepC.names h5⟩
theorem RepE.names {P:Program} {w:World} {η:Names} {X:Nat→Nat→Prop} {z:Nat}:∀ {l:List D} {b o:Nat},RepE P w η X z l b o→allL (fun k=>(η k).isSome=true) l
 | [],_,_,_=>trivial
 | d::ds,b,o,h=>by
  simp only [RepE] at h
  obtain ⟨⟨h1,h2⟩,h5⟩:=h
  simp only [allL]
  refine ⟨?_,RepE.names h5⟩
  cases hd:d.isAgg with
  | true=>exact RepA.names hd h1
  | false =>
   obtain ⟨e1,e2,x,e3,e4,e5⟩:=h2 hd
   exact Rep.names e5
theorem RepA.names {P:Program} {w:World} {η:Names} {X:Nat→Nat→Prop} {z:Nat}:∀ {d:D} {b o:Nat},d.isAgg=true→RepA P w η X z d b o→d.all (fun k=>(η k).isSome=true)
 | .agg cs,b,o,_,h=>by
  simp only [RepA] at h
  simp only [D.all]
  exact RepC.names h.2
 | .v _,_,_,h,_=>by cases h
 | .tup _,_,_,h,_=>by cases h
 | .fn _ _ _,_,_,h,_=>by cases h
 | .ifc _ _,_,_,h,_=>by cases h
 | .loc _ _,_,_,h,_=>by cases h
 | .rd _ _,_,_,h,_=>by cases h
 | .sl _ _,_,_,h,_=>by cases h
 | .win _ _ _ _,_,_,h,_=>by cases h
end

def globs:List (Nat × Value):=[(0,.iface 153 (.agg #[.pointer (some ⟨1,66,none⟩)]))]
def globAt (g:Nat):Option D:=bif Nat.beq g 0 then some (.ifc 153 (.agg [.v (.pointer (some ⟨1,66,none⟩))])) else none
def GlobOk (base:Nat) (w:World):Prop:=∀ p∈globs,p.1<base∧w.cell? ⟨p.1,0,none⟩=some p.2
theorem GlobOk.below {base:Nat} {w w':World} (h:GlobOk base w) (hb:Below base w w'):GlobOk base w':=fun p hp=>⟨(h p hp).1,(hb.cell (p:=⟨p.1,0,none⟩) (h p hp).1).trans (h p hp).2⟩
theorem glob_rep {P:Program} {w:World} {η:Names} {X:Nat→Nat→Prop} {base g:Nat} {d:D} (h:GlobOk base w) (hd:globAt g=some d):∃ v,w.cell? ⟨g,0,none⟩=some v∧Rep P w η X d v:=by
 unfold globAt at hd
 cases hb:Nat.beq g 0 with
 | false=>rw [hb] at hd;cases hd
 | true =>
  rw [hb] at hd
  injection hd with hd
  subst hd
  have e:=Nat.eq_of_beq_eq_true hb
  subst e
  refine ⟨_,(h _ List.mem_cons_self).2,?_⟩
  simp only [Rep,RepL]
  exact ⟨_,rfl,[_],rfl,⟨_,_,rfl,rfl,rfl⟩,fun x hx=>by rw [List.mem_singleton] at hx;subst hx;rfl⟩
structure Mem (P:Program) (base:Nat) (S:St) (η:Names) (w:World):Prop where
 base_:base≤w.heap.size
 dead:∀ k,S.next≤k→η k=none
 fresh:∀ k,S.next≤k→S.ob k=none
 live:∀ k t cs,S.ob k=some (.box t cs)→∃ b,η k=some (some b)
 inj:∀ k k' b,η k=some (some b)→η k'=some (some b)→(S.ob k).isSome=true→(S.ob k').isSome=true→k=k'
 in_:∀ k b,η k=some (some b)→base≤b∧b<w.heap.size
 box:∀ k t cs b,S.ob k=some (.box t cs)→η k=some (some b)→∃ vs:List Value,w.heap[b]? = some (.cells vs.toArray t (0,0))∧RepL P w η (Fix P S η) cs vs∧∀ x∈vs,x.oneCell'=true
 row:∀ k e n b,S.ob k=some (.row e n)→η k=some (some b)→∃ cur:Array Value,w.heap[b]? = some (.cells cur e (0,0))∧n * szOf P e≤cur.size
 glob:GlobOk base w
 mp:∀ k b l,S.ob k=some (.mp b l)→η k=some (some b)∧∃ (es:Array MapEntry) (c:Nat),w.heap[b]? = some (.map es c)∧es.toList.map (fun e=>(e.key,e.val))=l
end Go.Proofs.YtogbklnkpjjkoaaGreatDoor
