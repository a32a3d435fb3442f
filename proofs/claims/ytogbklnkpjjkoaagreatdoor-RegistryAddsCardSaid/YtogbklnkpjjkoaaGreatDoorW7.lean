/- Texts of a proof, part 7. Conditions: none. -/
import Derived.Test.YtogbklnkpjjkoaaGreatDoorW6
import Derived.RangeFuncRecord
import Derived.MapKept
import Derived.ChangeKeysEq
set_option linter.unusedVariables false
set_option linter.unusedSimpArgs false
namespace Go.Proofs.YtogbklnkpjjkoaaGreatDoor
open Go.RowKit
def outS (v:DSch) (d1 d2:D):List D:=[.v (.int .i64 v.kind),d1,d2]
def wqS (v p:DSch) (k:Int) (i:Nat):DSch:=if (i:Int)=k then p else v.parts.getD i default
def wstS (v:DSch) (x:Str) (p:DSch):Nat→Bool × List Str × List DSch
 | 0=>(decide (0≤ixI v.words x),[],[])
 | i+1=>if (!(wstS v x p i).1 && sLt x (v.words.getD i []))=true then (true,(wstS v x p i).2.1++[x]++[v.words.getD i []],(wstS v x p i).2.2++[p]++[wqS v p (ixI v.words x) i])
  else ((wstS v x p i).1,(wstS v x p i).2.1++[v.words.getD i []],(wstS v x p i).2.2++[wqS v p (ixI v.words x) i])
theorem wstS_len (v:DSch) (x:Str) (p:DSch):∀ i,(wstS v x p i).2.1.length≤2 * i∧(wstS v x p i).2.2.length≤2 * i
 | 0=>⟨Nat.le_refl _,Nat.le_refl _⟩
 | i+1=>by
  have ih:=wstS_len v x p i
  rw [wstS]
  split <;> simp only [List.length_append,List.length_cons,List.length_nil] <;> omega
def refWithS (v:DSch) (x:Str) (p:DSch):DSch :=
 if wholeS v=false then v else
 v.ofFields (if (wstS v x p v.words.length).1=true then (wstS v x p v.words.length).2.1 else (wstS v x p v.words.length).2.1++[x])
  ((if (wstS v x p v.words.length).1=true then (wstS v x p v.words.length).2.2 else (wstS v x p v.words.length).2.2++[p])++v.parts.drop v.words.length)
set_option maxRecDepth 200000 in
set_option maxHeartbeats 8000000 in
theorem refWith_d (v p:DSch) (x:Str) (hw:v.weight≤100000):DPure Tryz.prog 69 [encS v,.v (sv x),encS p] (encS (refWithS v x p)):=by
 have hwt:=v.weight_eq
 have hpn:=sPartsLen v
 refine dpure_of_dwp mixed Tryz.func69 rfl (fun _ _=>by kernel_rfl) (rs:=[.cell 6 25]) rfl (by kernel_rfl) (closed_encS _) (fun S hS=>?_)
 (refine dd0 ?_)
 refine DCalls.of_pure (refWholeS_d v) ?_
 cases hwh:wholeS v with
 | false =>
  (refine dd0 ?_)
  refine pendL ?_
  rw [refWithS,if_pos hwh,frz_encS]
 | true =>
 have hwl:v.kind=5∧v.words.length≤v.parts.length:=by simpa [wholeS] using hwh
 (refine dd0 ?_)
 have cv:(encS v).cells=[.v (.int .i64 v.kind),.sl .no (v.words.map strD),.sl .no (v.parts.map encS)]:=by rw [encS_eq];rfl
 generalize hTe:St.set (St.add (St.add (St.add (St.add S _) _) _) _) _ _=T0
 have u3:T0.ob S.next=some (.box 25 (encS v).cells):=by rw [← hTe];exact di0
 have u5:T0.ob (S.next+1)=some (.box 25 (encS p).cells):=by rw [← hTe];exact di0
 have u6:T0.ob (S.next+1+1)=some (.box 25 [.v (.int .i64 0),.sl .full [],.sl .full []]):=by rw [← hTe];exact di0
 have u7:T0.ob (S.next+1+1+1)=some (.box 25 (outS v (.sl .full []) (.sl .full []))):=by
  rw [← hTe];exact di2 @cv @outS.eq_1
 have hT0:T0.WF:=by rw [← hTe];exact wfA
 have hn0:T0.next=S.next+1+1+1+1:=by rw [← hTe];simp only [add_next,set_next]
 have hF0:S.Sub T0:=by rw [← hTe];exact subA
 clear hTe
 refine DCalls.of_pure (refAt_d v x (by omega)) ?_
 (simp (disch:=first | decide | omega | (simp only [nx];first | done | omega)) only [go_sem,u3];(repeat with_reducible refine aI ?_))
 obtain ⟨lo,hlo⟩:∃ lo,lo=S.next+1+1+1+1:=⟨_,rfl⟩
 have heU:elT Tryz.prog 22=some 9:=by kernel_rfl
 have heV:elT Tryz.prog 23=some 25:=by kernel_rfl
 have hzU:szOf Tryz.prog 9=1:=by kernel_rfl
 have hzV:szOf Tryz.prog 25=3:=by kernel_rfl
 have hbV:bytesOf Tryz.prog 25=56:=by kernel_rfl
 have wU:∀ l:List Str,∀ d∈l.map strD,d.width=szOf Tryz.prog 9:=fun l d hd=>by rw [hzU];exact wSs l d hd
 have wV:∀ l:List DSch,∀ d∈l.map encS,d.width=szOf Tryz.prog 25:=fun l d hd=>by rw [hzV];exact wScs l d hd
 have xU:∀ n:Str,(strD n).width=szOf Tryz.prog 9:=fun n=>by rw [hzU];rfl
 have xV:∀ p:DSch,(encS p).width=szOf Tryz.prog 25:=fun p=>by rw [hzV];exact cells_encS p
 obtain ⟨k,hk⟩:∃ k,k=ixI v.words x:=⟨_,rfl⟩
 refine dloop_up (fun t=>List.contains [9,10,11,24,25,26,27,28,29,30,31,32,33,34,35,36,37,38,39,40,41,42,43,44,45,46,47,48,49,50,51,52,53,54,55,56,57,58,59,60,61,62,63,64,65,66,67,68,69,70,71,72,73,74,75,76,77,78] t) (by kernel_rfl) hT0 v.words.length (fun i g T=>i≤v.words.length∧g 9=.v (.bool (wstS v x p i).1)∧g 10=.v (.int .i64 ((i:Nat):Int))∧(∃ o1 o2,TwoS (S.next+1+1+1) lo 9 25 (outS v) ((wstS v x p i).2.1.map strD) ((wstS v x p i).2.2.map encS) o1 o2 T)∧Fz (fun j=>j ≠ S.next+1+1+1∧j<lo) T0 T∧lo≤T.next)
  ⟨by omega,by exact di0,by exact di0,⟨.full,.full,⟨u7,.inl ⟨rfl,rfl⟩,.inl ⟨rfl,rfl⟩⟩⟩,Fz.refl _ _,by omega⟩ ?_
 rintro i g2 T hT hgb ⟨le2,q9,q10,⟨o1,o2,h2⟩,hF,hln⟩
 (have q1b:=hgb 1 rfl;have q3b:=hgb 3 rfl;have q5b:=hgb 5 rfl;have q6b:=hgb 6 rfl;have q7b:=hgb 7 rfl;have q8b:=hgb 8 rfl;simp (disch:=first | decide | omega | (simp only [nx];first | done | omega)) only [go_sem] at q1b q3b q5b q6b q7b q8b;clear hgb)
 have t3:=hF.ob _ _ ⟨by omega,by omega⟩ u3
 have t5:=hF.ob _ _ ⟨by omega,by omega⟩ u5
 have t6:=hF.ob _ _ ⟨by omega,by omega⟩ u6
 have t7:=h2.box
 have il:=wstS_len v x p i
 by_cases hlt:i<v.words.length
 ·have b1:decide ((i:Int)<(v.words.length:Int))=true:=by simp;omega
  have w5:IntKind.i64.wrap ((i:Int)+1)=((i+1:Nat):Int):=IntWalk.i64_in _ ⟨by omega,by omega⟩
  have hlp:i<v.parts.length:=by omega
  have hgn:v.words.getD i []=v.words[i]:=getD_at hlt
  cases hd:(wstS v x p i).1 with
  | true =>
   rw [hd] at q9
   have a0:wstS v x p (i+1)=((wstS v x p i).1,(wstS v x p i).2.1++[v.words.getD i []],(wstS v x p i).2.2++[wqS v p (ixI v.words x) i]):=by rw [wstS,if_neg (by rw [hd];simp)]
   have a1:(wstS v x p (i+1)).1=true:=by rw [a0];exact hd
   have a2:(wstS v x p (i+1)).2.1=(wstS v x p i).2.1++[v.words[i]]:=by rw [a0,hgn]
   have a3:(wstS v x p (i+1)).2.2=(wstS v x p i).2.2++[wqS v p (ixI v.words x) i]:=by rw [a0]
   clear a0
   (simp (disch:=first | decide | omega | (simp only [nx];first | done | omega)) only [go_sem,q3b,q9,q10,b1,t3];(repeat with_reducible refine aI ?_))
   generalize (wstS v x p i).2.1=l1 at *
   generalize (wstS v x p i).2.2=l2 at *
   ·skip
    ·skip
     
     have t3':=hF.ob _ _ ⟨by omega,by omega⟩ u3
     have t5':=hF.ob _ _ ⟨by omega,by omega⟩ u5
     have hqd:∃ q,q=wqS v p (ixI v.words x) i:=⟨_,rfl⟩
     obtain ⟨q,hq⟩:=hqd
     rw [← hq] at a3
     by_cases hik:(i:Int)=ixI v.words x
     ·have b8:((i:Int) == ixI v.words x)=true:=by simp [hik]
      have hqp:q=p:=by rw [hq,wqS,if_pos hik]
      subst hqp
      (simp (disch:=first | decide | omega | (simp only [nx];first | done | omega)) only [go_sem,q9,q3b,q5b,q8b,q10,t3',t5',hlt,hlp,b8];(repeat with_reducible refine aI ?_))
      generalize hXe:St.set (St.set (St.add _ _) _ _) _ _=X
      
      have xo:∀ j,j<T.next→X.ob j=T.ob j:=fun j hj=>by
       have hj1:j ≠ T.next:=by omega
       rw [← hXe];exact di1 @hj1
      have x11:X.ob T.next=some (.box 25 (encS q).cells):=by rw [← hXe];exact di0
      have xn:X.next=T.next+1:=by rw [← hXe];simp only [add_next,set_next]
      have hX:X.WF:=by rw [← hXe];exact wfA
      clear hXe
      have h5:=h2.old hT xo
      have x3:=(xo _ (by omega)).trans t3'
      have x7:=h5.box
      have lnX:lo≤X.next:=by omega
      have y3:∀ m m2,((X.grow o1 9 m).grow o2 25 m2).ob S.next=some (.box 25 (encS v).cells):=fun m m2=>h5.at2b hX (by omega) x3
      have y7:∀ m m2,((X.grow o1 9 m).grow o2 25 m2).ob (S.next+1+1+1)=some (.box 25 (outS v (.sl o1 (l1.map strD)) (.sl o2 (l2.map encS)))):=fun m m2=>h5.at2b hX (by omega) x7
      (refine ddraw_any (fun S'=>S'.ob S.next=some (.box 25 (encS v).cells)∧S'.ob (S.next+1+1+1)=some (.box 25 (outS v (.sl o1 (l1.map strD)) (.sl o2 (l2.map encS))))∧S'.ob T.next=some (.box 25 (encS q).cells)) 15 (by exact di3 @x3 @x7 @x11) (by kernel_rfl) ?_;(refine stk 0 (v:=?v35) (fun S' hz=>dquietR_of ?h35) <| stk 1 (v:=?v36) (fun S' hz=>dquietR_of ?h36) <| stk 2 (v:=?v37) (fun S' hz=>dquietR_of ?h37) <| stk 3 (v:=?v38) (fun S' hz=>dquietR_of ?h38) <| stk 4 (v:=?v39) (fun S' hz=>dquietR_of ?h39) <| stk 5 (v:=?v40) (fun S' hz=>dquietR_of ?h40) <| stk 6 (v:=?v41) (fun S' hz=>dquietR_of ?h41) <| stk 7 (v:=?v42) (fun S' hz=>dquietR_of ?h42) <| stk 9 (v:=?v43) (fun S' hz=>dquietR_of ?h43) <| stk 10 (v:=?v44) (fun S' hz=>dquietR_of ?h44) <| stk 11 (v:=?v45) (fun S' hz=>dquietR_of ?h45) <| stk 12 (v:=?v46) (fun S' hz=>dquietR_of ?h46) <| ?k46;(case h35 | h36 | h37 | h38 | h39 | h40 | h41 | h42 | h43 | h44 | h45 | h46=>((simp (disch:=first | decide | omega | (simp only [nx];first | done | omega)) only [go_sem,q3b,q7b,q10,outS,hlt,hz];(repeat with_reducible refine aI ?_));first | done | exact rfl | omega)));(refine s_one 8 ?_;(refine dd0 ?_));(refine dapp_at (lo:=lo) heU (by kernel_rfl) h5.r1 (wU _) (xU _) (by simp (disch:=first | decide | omega | (simp only [nx];first | done | omega)) only [go_sem];omega) (by simp (disch:=first | decide | omega | (simp only [nx];first | done | omega)) only [go_sem];omega) ?_);(refine ⟨⟨h5.at1b hX (by omega) x3,h5.at1b hX (by omega) x7,h5.at1b hX (by omega) x11⟩,?_⟩);(refine stk 14 (v:=?v47) (fun S' hz=>dquietR_of ?h47) ?k47;(case h47=>((simp (disch:=first | decide | omega | (simp only [nx];first | done | omega)) only [go_sem,q3b,q7b,q10,outS,hlt,hz];(repeat with_reducible refine aI ?_));first | done | exact rfl | omega)));(refine s_one 13 ?_;(refine dd0 ?_));(refine dapp_at (lo:=lo) heV (by kernel_rfl) (h5.row2 hX (by decide)) (wV _) (xV _) (by simp (disch:=first | decide | omega | (simp only [nx];first | done | omega)) only [go_sem];omega) (by simp (disch:=first | decide | omega | (simp only [nx];first | done | omega)) only [go_sem];omega) ?_);(refine ⟨⟨h5.at2b hX (by omega) x3,h5.at2b hX (by omega) x7,h5.at2b hX (by omega) x11⟩,?_⟩))
      (refine s_done (by kernel_rfl) ?_;(simp (disch:=first | decide | omega | (simp only [nx];first | done | omega)) only [go_sem,q7b,y7,outS,q3b,q10,y3,w5];(repeat with_reducible refine aI ?_)))
      have key:=twoS_step h5 hX lnX (by decide) (L1':=l1.map strD++[strD v.words[i]]) (L2':=l2.map encS++[encS q]) (B:=.box 25 (outS v (.sl (.row X.next) (l1.map strD++[strD v.words[i]])) (.sl o2 (l2.map encS)))) (m1:=l1.length+1) (m2:=l2.length+1) (by simp) (by simp)
      simp only [outS,strD] at key
      revert key
      generalize St.set (St.set _ _ _) _ _=T5
      rintro ⟨h6,hF5,hT5,hn5⟩
      refine ⟨by omega,T5.ob,fun _ _ h=>h,by omega,by exact di2 @q9 @a1,by exact di0,⟨(.row X.next),(.row (X.next+1)),?_⟩,?_,by show lo≤T5.next;omega⟩
      ·rw [a2,a3,List.map_append,List.map_append]
       exact h6
      ·have hFX:Fz (fun j=>j ≠ S.next+1+1+1∧j<lo) T X:=⟨by omega,fun j o' hj e=>by rw [xo j (by omega)];exact e⟩
       exact ((hF.trans hFX).trans hF5).mono fun _ h=>⟨h.1,h.2⟩

     ·have b8:((i:Int) == ixI v.words x)=false:=by simp [hik]
      have hqp:q=v.parts[i]:=by rw [hq,wqS,if_neg hik,getD_at hlp]
      (simp (disch:=first | decide | omega | (simp only [nx];first | done | omega)) only [go_sem,q9,q3b,q5b,q8b,q10,t3',t5',hlt,hlp,b8];(repeat with_reducible refine aI ?_))
      rw [← hqp]
      generalize hXe:St.set (St.add _ _) _ _=X
      
      have xo:∀ j,j<T.next→X.ob j=T.ob j:=fun j hj=>by
       have hj1:j ≠ T.next:=by omega
       rw [← hXe];exact di1 @hj1
      have x11:X.ob T.next=some (.box 25 (encS q).cells):=by rw [← hXe];exact di0
      have xn:X.next=T.next+1:=by rw [← hXe];simp only [add_next,set_next]
      have hX:X.WF:=by rw [← hXe];exact wfA
      clear hXe
      have h5:=h2.old hT xo
      have x3:=(xo _ (by omega)).trans t3'
      have x7:=h5.box
      have lnX:lo≤X.next:=by omega
      have y3:∀ m m2,((X.grow o1 9 m).grow o2 25 m2).ob S.next=some (.box 25 (encS v).cells):=fun m m2=>h5.at2b hX (by omega) x3
      have y7:∀ m m2,((X.grow o1 9 m).grow o2 25 m2).ob (S.next+1+1+1)=some (.box 25 (outS v (.sl o1 (l1.map strD)) (.sl o2 (l2.map encS)))):=fun m m2=>h5.at2b hX (by omega) x7
      (refine ddraw_any (fun S'=>S'.ob S.next=some (.box 25 (encS v).cells)∧S'.ob (S.next+1+1+1)=some (.box 25 (outS v (.sl o1 (l1.map strD)) (.sl o2 (l2.map encS))))∧S'.ob T.next=some (.box 25 (encS q).cells)) 15 (by exact di3 @x3 @x7 @x11) (by kernel_rfl) ?_;(refine stk 0 (v:=?v48) (fun S' hz=>dquietR_of ?h48) <| stk 1 (v:=?v49) (fun S' hz=>dquietR_of ?h49) <| stk 2 (v:=?v50) (fun S' hz=>dquietR_of ?h50) <| stk 3 (v:=?v51) (fun S' hz=>dquietR_of ?h51) <| stk 4 (v:=?v52) (fun S' hz=>dquietR_of ?h52) <| stk 5 (v:=?v53) (fun S' hz=>dquietR_of ?h53) <| stk 6 (v:=?v54) (fun S' hz=>dquietR_of ?h54) <| stk 7 (v:=?v55) (fun S' hz=>dquietR_of ?h55) <| stk 9 (v:=?v56) (fun S' hz=>dquietR_of ?h56) <| stk 10 (v:=?v57) (fun S' hz=>dquietR_of ?h57) <| stk 11 (v:=?v58) (fun S' hz=>dquietR_of ?h58) <| stk 12 (v:=?v59) (fun S' hz=>dquietR_of ?h59) <| ?k59;(case h48 | h49 | h50 | h51 | h52 | h53 | h54 | h55 | h56 | h57 | h58 | h59=>((simp (disch:=first | decide | omega | (simp only [nx];first | done | omega)) only [go_sem,q3b,q7b,q10,outS,hlt,hz];(repeat with_reducible refine aI ?_));first | done | exact rfl | omega)));(refine s_one 8 ?_;(refine dd0 ?_));(refine dapp_at (lo:=lo) heU (by kernel_rfl) h5.r1 (wU _) (xU _) (by simp (disch:=first | decide | omega | (simp only [nx];first | done | omega)) only [go_sem];omega) (by simp (disch:=first | decide | omega | (simp only [nx];first | done | omega)) only [go_sem];omega) ?_);(refine ⟨⟨h5.at1b hX (by omega) x3,h5.at1b hX (by omega) x7,h5.at1b hX (by omega) x11⟩,?_⟩);(refine stk 14 (v:=?v60) (fun S' hz=>dquietR_of ?h60) ?k60;(case h60=>((simp (disch:=first | decide | omega | (simp only [nx];first | done | omega)) only [go_sem,q3b,q7b,q10,outS,hlt,hz];(repeat with_reducible refine aI ?_));first | done | exact rfl | omega)));(refine s_one 13 ?_;(refine dd0 ?_));(refine dapp_at (lo:=lo) heV (by kernel_rfl) (h5.row2 hX (by decide)) (wV _) (xV _) (by simp (disch:=first | decide | omega | (simp only [nx];first | done | omega)) only [go_sem];omega) (by simp (disch:=first | decide | omega | (simp only [nx];first | done | omega)) only [go_sem];omega) ?_);(refine ⟨⟨h5.at2b hX (by omega) x3,h5.at2b hX (by omega) x7,h5.at2b hX (by omega) x11⟩,?_⟩))
      (refine s_done (by kernel_rfl) ?_;(simp (disch:=first | decide | omega | (simp only [nx];first | done | omega)) only [go_sem,q7b,y7,outS,q3b,q10,y3,w5];(repeat with_reducible refine aI ?_)))
      have key:=twoS_step h5 hX lnX (by decide) (L1':=l1.map strD++[strD v.words[i]]) (L2':=l2.map encS++[encS q]) (B:=.box 25 (outS v (.sl (.row X.next) (l1.map strD++[strD v.words[i]])) (.sl o2 (l2.map encS)))) (m1:=l1.length+1) (m2:=l2.length+1) (by simp) (by simp)
      simp only [outS,strD] at key
      revert key
      generalize St.set (St.set _ _ _) _ _=T5
      rintro ⟨h6,hF5,hT5,hn5⟩
      refine ⟨by omega,T5.ob,fun _ _ h=>h,by omega,by exact di2 @q9 @a1,by exact di0,⟨(.row X.next),(.row (X.next+1)),?_⟩,?_,by show lo≤T5.next;omega⟩
      ·rw [a2,a3,List.map_append,List.map_append]
       exact h6
      ·have hFX:Fz (fun j=>j ≠ S.next+1+1+1∧j<lo) T X:=⟨by omega,fun j o' hj e=>by rw [xo j (by omega)];exact e⟩
       exact ((hF.trans hFX).trans hF5).mono fun _ h=>⟨h.1,h.2⟩


  | false =>
   rw [hd] at q9
   cases hs:sLt x v.words[i] with
   | false =>
    have b4:(!(Op.bytesLess v.words[i] x || v.words[i] == x))=false:=(gt_sLt _ _).trans hs
    have a0:wstS v x p (i+1)=((wstS v x p i).1,(wstS v x p i).2.1++[v.words.getD i []],(wstS v x p i).2.2++[wqS v p (ixI v.words x) i]):=by rw [wstS,if_neg (by rw [hd,hgn,hs];simp)]
    have a1:(wstS v x p (i+1)).1=false:=by rw [a0];exact hd
    have a2:(wstS v x p (i+1)).2.1=(wstS v x p i).2.1++[v.words[i]]:=by rw [a0,hgn]
    have a3:(wstS v x p (i+1)).2.2=(wstS v x p i).2.2++[wqS v p (ixI v.words x) i]:=by rw [a0]
    clear a0
    (simp (disch:=first | decide | omega | (simp only [nx];first | done | omega)) only [go_sem,q1b,q3b,q9,q10,b1,t3,hlt,b4];(repeat with_reducible refine aI ?_))
    generalize (wstS v x p i).2.1=l1 at *
    generalize (wstS v x p i).2.2=l2 at *
    ·skip
     
     have t3':=hF.ob _ _ ⟨by omega,by omega⟩ u3
     have t5':=hF.ob _ _ ⟨by omega,by omega⟩ u5
     have hqd:∃ q,q=wqS v p (ixI v.words x) i:=⟨_,rfl⟩
     obtain ⟨q,hq⟩:=hqd
     rw [← hq] at a3
     by_cases hik:(i:Int)=ixI v.words x
     ·have b8:((i:Int) == ixI v.words x)=true:=by simp [hik]
      have hqp:q=p:=by rw [hq,wqS,if_pos hik]
      subst hqp
      (simp (disch:=first | decide | omega | (simp only [nx];first | done | omega)) only [go_sem,q9,q3b,q5b,q8b,q10,t3',t5',hlt,hlp,b8];(repeat with_reducible refine aI ?_))
      generalize hXe:St.set (St.set (St.add _ _) _ _) _ _=X
      
      have xo:∀ j,j<T.next→X.ob j=T.ob j:=fun j hj=>by
       have hj1:j ≠ T.next:=by omega
       rw [← hXe];exact di1 @hj1
      have x11:X.ob T.next=some (.box 25 (encS q).cells):=by rw [← hXe];exact di0
      have xn:X.next=T.next+1:=by rw [← hXe];simp only [add_next,set_next]
      have hX:X.WF:=by rw [← hXe];exact wfA
      clear hXe
      have h5:=h2.old hT xo
      have x3:=(xo _ (by omega)).trans t3'
      have x7:=h5.box
      have lnX:lo≤X.next:=by omega
      have y3:∀ m m2,((X.grow o1 9 m).grow o2 25 m2).ob S.next=some (.box 25 (encS v).cells):=fun m m2=>h5.at2b hX (by omega) x3
      have y7:∀ m m2,((X.grow o1 9 m).grow o2 25 m2).ob (S.next+1+1+1)=some (.box 25 (outS v (.sl o1 (l1.map strD)) (.sl o2 (l2.map encS)))):=fun m m2=>h5.at2b hX (by omega) x7
      (refine ddraw_any (fun S'=>S'.ob S.next=some (.box 25 (encS v).cells)∧S'.ob (S.next+1+1+1)=some (.box 25 (outS v (.sl o1 (l1.map strD)) (.sl o2 (l2.map encS))))∧S'.ob T.next=some (.box 25 (encS q).cells)) 15 (by exact di3 @x3 @x7 @x11) (by kernel_rfl) ?_;(refine stk 0 (v:=?v61) (fun S' hz=>dquietR_of ?h61) <| stk 1 (v:=?v62) (fun S' hz=>dquietR_of ?h62) <| stk 2 (v:=?v63) (fun S' hz=>dquietR_of ?h63) <| stk 3 (v:=?v64) (fun S' hz=>dquietR_of ?h64) <| stk 4 (v:=?v65) (fun S' hz=>dquietR_of ?h65) <| stk 5 (v:=?v66) (fun S' hz=>dquietR_of ?h66) <| stk 6 (v:=?v67) (fun S' hz=>dquietR_of ?h67) <| stk 7 (v:=?v68) (fun S' hz=>dquietR_of ?h68) <| stk 9 (v:=?v69) (fun S' hz=>dquietR_of ?h69) <| stk 10 (v:=?v70) (fun S' hz=>dquietR_of ?h70) <| stk 11 (v:=?v71) (fun S' hz=>dquietR_of ?h71) <| stk 12 (v:=?v72) (fun S' hz=>dquietR_of ?h72) <| ?k72;(case h61 | h62 | h63 | h64 | h65 | h66 | h67 | h68 | h69 | h70 | h71 | h72=>((simp (disch:=first | decide | omega | (simp only [nx];first | done | omega)) only [go_sem,q3b,q7b,q10,outS,hlt,hz];(repeat with_reducible refine aI ?_));first | done | exact rfl | omega)));(refine s_one 8 ?_;(refine dd0 ?_));(refine dapp_at (lo:=lo) heU (by kernel_rfl) h5.r1 (wU _) (xU _) (by simp (disch:=first | decide | omega | (simp only [nx];first | done | omega)) only [go_sem];omega) (by simp (disch:=first | decide | omega | (simp only [nx];first | done | omega)) only [go_sem];omega) ?_);(refine ⟨⟨h5.at1b hX (by omega) x3,h5.at1b hX (by omega) x7,h5.at1b hX (by omega) x11⟩,?_⟩);(refine stk 14 (v:=?v73) (fun S' hz=>dquietR_of ?h73) ?k73;(case h73=>((simp (disch:=first | decide | omega | (simp only [nx];first | done | omega)) only [go_sem,q3b,q7b,q10,outS,hlt,hz];(repeat with_reducible refine aI ?_));first | done | exact rfl | omega)));(refine s_one 13 ?_;(refine dd0 ?_));(refine dapp_at (lo:=lo) heV (by kernel_rfl) (h5.row2 hX (by decide)) (wV _) (xV _) (by simp (disch:=first | decide | omega | (simp only [nx];first | done | omega)) only [go_sem];omega) (by simp (disch:=first | decide | omega | (simp only [nx];first | done | omega)) only [go_sem];omega) ?_);(refine ⟨⟨h5.at2b hX (by omega) x3,h5.at2b hX (by omega) x7,h5.at2b hX (by omega) x11⟩,?_⟩))
      (refine s_done (by kernel_rfl) ?_;(simp (disch:=first | decide | omega | (simp only [nx];first | done | omega)) only [go_sem,q7b,y7,outS,q3b,q10,y3,w5];(repeat with_reducible refine aI ?_)))
      have key:=twoS_step h5 hX lnX (by decide) (L1':=l1.map strD++[strD v.words[i]]) (L2':=l2.map encS++[encS q]) (B:=.box 25 (outS v (.sl (.row X.next) (l1.map strD++[strD v.words[i]])) (.sl o2 (l2.map encS)))) (m1:=l1.length+1) (m2:=l2.length+1) (by simp) (by simp)
      simp only [outS,strD] at key
      revert key
      generalize St.set (St.set _ _ _) _ _=T5
      rintro ⟨h6,hF5,hT5,hn5⟩
      refine ⟨by omega,T5.ob,fun _ _ h=>h,by omega,by exact di2 @q9 @a1,by exact di0,⟨(.row X.next),(.row (X.next+1)),?_⟩,?_,by show lo≤T5.next;omega⟩
      ·rw [a2,a3,List.map_append,List.map_append]
       exact h6
      ·have hFX:Fz (fun j=>j ≠ S.next+1+1+1∧j<lo) T X:=⟨by omega,fun j o' hj e=>by rw [xo j (by omega)];exact e⟩
       exact ((hF.trans hFX).trans hF5).mono fun _ h=>⟨h.1,h.2⟩

     ·have b8:((i:Int) == ixI v.words x)=false:=by simp [hik]
      have hqp:q=v.parts[i]:=by rw [hq,wqS,if_neg hik,getD_at hlp]
      (simp (disch:=first | decide | omega | (simp only [nx];first | done | omega)) only [go_sem,q9,q3b,q5b,q8b,q10,t3',t5',hlt,hlp,b8];(repeat with_reducible refine aI ?_))
      rw [← hqp]
      generalize hXe:St.set (St.add _ _) _ _=X
      
      have xo:∀ j,j<T.next→X.ob j=T.ob j:=fun j hj=>by
       have hj1:j ≠ T.next:=by omega
       rw [← hXe];exact di1 @hj1
      have x11:X.ob T.next=some (.box 25 (encS q).cells):=by rw [← hXe];exact di0
      have xn:X.next=T.next+1:=by rw [← hXe];simp only [add_next,set_next]
      have hX:X.WF:=by rw [← hXe];exact wfA
      clear hXe
      have h5:=h2.old hT xo
      have x3:=(xo _ (by omega)).trans t3'
      have x7:=h5.box
      have lnX:lo≤X.next:=by omega
      have y3:∀ m m2,((X.grow o1 9 m).grow o2 25 m2).ob S.next=some (.box 25 (encS v).cells):=fun m m2=>h5.at2b hX (by omega) x3
      have y7:∀ m m2,((X.grow o1 9 m).grow o2 25 m2).ob (S.next+1+1+1)=some (.box 25 (outS v (.sl o1 (l1.map strD)) (.sl o2 (l2.map encS)))):=fun m m2=>h5.at2b hX (by omega) x7
      (refine ddraw_any (fun S'=>S'.ob S.next=some (.box 25 (encS v).cells)∧S'.ob (S.next+1+1+1)=some (.box 25 (outS v (.sl o1 (l1.map strD)) (.sl o2 (l2.map encS))))∧S'.ob T.next=some (.box 25 (encS q).cells)) 15 (by exact di3 @x3 @x7 @x11) (by kernel_rfl) ?_;(refine stk 0 (v:=?v74) (fun S' hz=>dquietR_of ?h74) <| stk 1 (v:=?v75) (fun S' hz=>dquietR_of ?h75) <| stk 2 (v:=?v76) (fun S' hz=>dquietR_of ?h76) <| stk 3 (v:=?v77) (fun S' hz=>dquietR_of ?h77) <| stk 4 (v:=?v78) (fun S' hz=>dquietR_of ?h78) <| stk 5 (v:=?v79) (fun S' hz=>dquietR_of ?h79) <| stk 6 (v:=?v80) (fun S' hz=>dquietR_of ?h80) <| stk 7 (v:=?v81) (fun S' hz=>dquietR_of ?h81) <| stk 9 (v:=?v82) (fun S' hz=>dquietR_of ?h82) <| stk 10 (v:=?v83) (fun S' hz=>dquietR_of ?h83) <| stk 11 (v:=?v84) (fun S' hz=>dquietR_of ?h84) <| stk 12 (v:=?v85) (fun S' hz=>dquietR_of ?h85) <| ?k85;(case h74 | h75 | h76 | h77 | h78 | h79 | h80 | h81 | h82 | h83 | h84 | h85=>((simp (disch:=first | decide | omega | (simp only [nx];first | done | omega)) only [go_sem,q3b,q7b,q10,outS,hlt,hz];(repeat with_reducible refine aI ?_));first | done | exact rfl | omega)));(refine s_one 8 ?_;(refine dd0 ?_));(refine dapp_at (lo:=lo) heU (by kernel_rfl) h5.r1 (wU _) (xU _) (by simp (disch:=first | decide | omega | (simp only [nx];first | done | omega)) only [go_sem];omega) (by simp (disch:=first | decide | omega | (simp only [nx];first | done | omega)) only [go_sem];omega) ?_);(refine ⟨⟨h5.at1b hX (by omega) x3,h5.at1b hX (by omega) x7,h5.at1b hX (by omega) x11⟩,?_⟩);(refine stk 14 (v:=?v86) (fun S' hz=>dquietR_of ?h86) ?k86;(case h86=>((simp (disch:=first | decide | omega | (simp only [nx];first | done | omega)) only [go_sem,q3b,q7b,q10,outS,hlt,hz];(repeat with_reducible refine aI ?_));first | done | exact rfl | omega)));(refine s_one 13 ?_;(refine dd0 ?_));(refine dapp_at (lo:=lo) heV (by kernel_rfl) (h5.row2 hX (by decide)) (wV _) (xV _) (by simp (disch:=first | decide | omega | (simp only [nx];first | done | omega)) only [go_sem];omega) (by simp (disch:=first | decide | omega | (simp only [nx];first | done | omega)) only [go_sem];omega) ?_);(refine ⟨⟨h5.at2b hX (by omega) x3,h5.at2b hX (by omega) x7,h5.at2b hX (by omega) x11⟩,?_⟩))
      (refine s_done (by kernel_rfl) ?_;(simp (disch:=first | decide | omega | (simp only [nx];first | done | omega)) only [go_sem,q7b,y7,outS,q3b,q10,y3,w5];(repeat with_reducible refine aI ?_)))
      have key:=twoS_step h5 hX lnX (by decide) (L1':=l1.map strD++[strD v.words[i]]) (L2':=l2.map encS++[encS q]) (B:=.box 25 (outS v (.sl (.row X.next) (l1.map strD++[strD v.words[i]])) (.sl o2 (l2.map encS)))) (m1:=l1.length+1) (m2:=l2.length+1) (by simp) (by simp)
      simp only [outS,strD] at key
      revert key
      generalize St.set (St.set _ _ _) _ _=T5
      rintro ⟨h6,hF5,hT5,hn5⟩
      refine ⟨by omega,T5.ob,fun _ _ h=>h,by omega,by exact di2 @q9 @a1,by exact di0,⟨(.row X.next),(.row (X.next+1)),?_⟩,?_,by show lo≤T5.next;omega⟩
      ·rw [a2,a3,List.map_append,List.map_append]
       exact h6
      ·have hFX:Fz (fun j=>j ≠ S.next+1+1+1∧j<lo) T X:=⟨by omega,fun j o' hj e=>by rw [xo j (by omega)];exact e⟩
       exact ((hF.trans hFX).trans hF5).mono fun _ h=>⟨h.1,h.2⟩


   | true =>
    have b4:(!(Op.bytesLess v.words[i] x || v.words[i] == x))=true:=(gt_sLt _ _).trans hs
    have a0:wstS v x p (i+1)=(true,(wstS v x p i).2.1++[x]++[v.words.getD i []],(wstS v x p i).2.2++[p]++[wqS v p (ixI v.words x) i]):=by rw [wstS,if_pos (by rw [hd,hgn,hs];simp)]
    have a1:(wstS v x p (i+1)).1=true:=by rw [a0]
    have a2:(wstS v x p (i+1)).2.1=(wstS v x p i).2.1++[x]++[v.words[i]]:=by rw [a0,hgn]
    have a3:(wstS v x p (i+1)).2.2=(wstS v x p i).2.2++[p]++[wqS v p (ixI v.words x) i]:=by rw [a0]
    clear a0
    (simp (disch:=first | decide | omega | (simp only [nx];first | done | omega)) only [go_sem,q1b,q3b,q9,q10,b1,t3,hlt,b4];(repeat with_reducible refine aI ?_))
    generalize (wstS v x p i).2.1=k1 at *
    generalize (wstS v x p i).2.2=k2 at *
    have y5:∀ m m2,((T.grow o1 9 m).grow o2 25 m2).ob (S.next+1)=some (.box 25 (encS p).cells):=fun m m2=>h2.at2 hT (by omega) t5
    have y7':∀ m m2,((T.grow o1 9 m).grow o2 25 m2).ob (S.next+1+1+1)=some (.box 25 (outS v (.sl o1 (k1.map strD)) (.sl o2 (k2.map encS)))):=fun m m2=>h2.at2b hT (hT.lt t7) t7
    (refine ddraw_any (fun S'=>S'.ob (S.next+1)=some (.box 25 (encS p).cells)∧S'.ob (S.next+1+1+1)=some (.box 25 (outS v (.sl o1 (k1.map strD)) (.sl o2 (k2.map encS))))) 11 (by exact di2 @t5 @t7) (by kernel_rfl) ?_;(refine stk 0 (v:=?v1) (fun S' hz=>dquietR_of ?h1) <| stk 1 (v:=?v2) (fun S' hz=>dquietR_of ?h2) <| stk 2 (v:=?v3) (fun S' hz=>dquietR_of ?h3) <| stk 3 (v:=?v4) (fun S' hz=>dquietR_of ?h4) <| stk 5 (v:=?v5) (fun S' hz=>dquietR_of ?h5) <| stk 6 (v:=?v6) (fun S' hz=>dquietR_of ?h6) <| stk 7 (v:=?v7) (fun S' hz=>dquietR_of ?h7) <| stk 8 (v:=?v8) (fun S' hz=>dquietR_of ?h8) <| ?k8;(case h1 | h2 | h3 | h4 | h5 | h6 | h7 | h8=>((simp (disch:=first | decide | omega | (simp only [nx];first | done | omega)) only [go_sem,q1b,q5b,q7b,outS,hz];(repeat with_reducible refine aI ?_));first | done | exact rfl | omega)));(refine s_one 4 ?_;(refine dd0 ?_));(refine dapp_at (lo:=lo) heU (by kernel_rfl) h2.r1 (wU _) (xU x) (by simp (disch:=first | decide | omega | (simp only [nx];first | done | omega)) only [go_sem];omega) (by simp (disch:=first | decide | omega | (simp only [nx];first | done | omega)) only [go_sem];omega) ?_);(refine ⟨⟨h2.at1 hT (by omega) t5,h2.at1b hT (by omega) t7⟩,?_⟩);(refine stk 10 (v:=?v9) (fun S' hz=>dquietR_of ?h9) ?k9;(case h9=>((simp (disch:=first | decide | omega | (simp only [nx];first | done | omega)) only [go_sem,q1b,q5b,q7b,outS,hz];(repeat with_reducible refine aI ?_));first | done | exact rfl | omega)));(refine s_one 9 ?_;(refine dd0 ?_));(refine dapp_at (lo:=lo) heV (by kernel_rfl) (h2.row2 hT (by decide)) (wV _) (xV p) (by simp (disch:=first | decide | omega | (simp only [nx];first | done | omega)) only [go_sem];omega) (by simp (disch:=first | decide | omega | (simp only [nx];first | done | omega)) only [go_sem];omega) ?_);(refine ⟨⟨h2.at2 hT (by omega) t5,h2.at2b hT (by omega) t7⟩,?_⟩))
    (refine s_done (by kernel_rfl) ?_;(simp (disch:=first | decide | omega | (simp only [nx];first | done | omega)) only [go_sem,q7b,y7',outS,q10];(repeat with_reducible refine aI ?_)))
    have key:=twoS_step h2 hT hln (by decide) (L1':=k1.map strD++[strD x]) (L2':=k2.map encS++[encS p]) (B:=.box 25 (outS v (.sl (.row T.next) (k1.map strD++[strD x])) (.sl o2 (k2.map encS)))) (m1:=k1.length+1) (m2:=k2.length+1) (by simp) (by simp)
    simp only [outS,strD] at key
    revert key
    generalize St.set (St.set _ _ _) _ _=T2
    rintro ⟨h3,hF3,hT2,hn3⟩
    have c1:k1.map strD++[.v (sv x)]=(k1++[x]).map strD:=by simp [strD]
    have c2:k2.map encS++[encS p]=(k2++[p]).map encS:=by simp
    rw [c1,c2] at h3
    have hF4:=hF.trans hF3
    have hln4:lo≤T2.next:=by omega
    have il:(k1++[x]).length≤2 * i+1∧(k2++[p]).length≤2 * i+1:=by simp only [List.length_append,List.length_cons,List.length_nil];omega
    generalize k1++[x]=l1 at *
    generalize k2++[p]=l2 at *
    ·skip
     
     have t3':=hF4.ob _ _ ⟨by omega,by omega⟩ u3
     have t5':=hF4.ob _ _ ⟨by omega,by omega⟩ u5
     have hqd:∃ q,q=wqS v p (ixI v.words x) i:=⟨_,rfl⟩
     obtain ⟨q,hq⟩:=hqd
     rw [← hq] at a3
     by_cases hik:(i:Int)=ixI v.words x
     ·have b8:((i:Int) == ixI v.words x)=true:=by simp [hik]
      have hqp:q=p:=by rw [hq,wqS,if_pos hik]
      subst hqp
      (simp (disch:=first | decide | omega | (simp only [nx];first | done | omega)) only [go_sem,q7b,q3b,q5b,q8b,q10,t3',t5',hlt,hlp,b8];(repeat with_reducible refine aI ?_))
      generalize hXe:St.set (St.set (St.add _ _) _ _) _ _=X
      
      have xo:∀ j,j<T2.next→X.ob j=T2.ob j:=fun j hj=>by
       have hj1:j ≠ T2.next:=by omega
       rw [← hXe];exact di1 @hj1
      have x11:X.ob T2.next=some (.box 25 (encS q).cells):=by rw [← hXe];exact di0
      have xn:X.next=T2.next+1:=by rw [← hXe];simp only [add_next,set_next]
      have hX:X.WF:=by rw [← hXe];exact wfA
      clear hXe
      have h5:=h3.old hT2 xo
      have x3:=(xo _ (by omega)).trans t3'
      have x7:=h5.box
      have lnX:lo≤X.next:=by omega
      have y3:∀ m m2,((X.grow (Own.row T.next) 9 m).grow (Own.row (T.next+1)) 25 m2).ob S.next=some (.box 25 (encS v).cells):=fun m m2=>h5.at2b hX (by omega) x3
      have y7:∀ m m2,((X.grow (Own.row T.next) 9 m).grow (Own.row (T.next+1)) 25 m2).ob (S.next+1+1+1)=some (.box 25 (outS v (.sl (Own.row T.next) (l1.map strD)) (.sl (Own.row (T.next+1)) (l2.map encS)))):=fun m m2=>h5.at2b hX (by omega) x7
      (refine ddraw_any (fun S'=>S'.ob S.next=some (.box 25 (encS v).cells)∧S'.ob (S.next+1+1+1)=some (.box 25 (outS v (.sl (Own.row T.next) (l1.map strD)) (.sl (Own.row (T.next+1)) (l2.map encS))))∧S'.ob T2.next=some (.box 25 (encS q).cells)) 15 (by exact di3 @x3 @x7 @x11) (by kernel_rfl) ?_;(refine stk 0 (v:=?v87) (fun S' hz=>dquietR_of ?h87) <| stk 1 (v:=?v88) (fun S' hz=>dquietR_of ?h88) <| stk 2 (v:=?v89) (fun S' hz=>dquietR_of ?h89) <| stk 3 (v:=?v90) (fun S' hz=>dquietR_of ?h90) <| stk 4 (v:=?v91) (fun S' hz=>dquietR_of ?h91) <| stk 5 (v:=?v92) (fun S' hz=>dquietR_of ?h92) <| stk 6 (v:=?v93) (fun S' hz=>dquietR_of ?h93) <| stk 7 (v:=?v94) (fun S' hz=>dquietR_of ?h94) <| stk 9 (v:=?v95) (fun S' hz=>dquietR_of ?h95) <| stk 10 (v:=?v96) (fun S' hz=>dquietR_of ?h96) <| stk 11 (v:=?v97) (fun S' hz=>dquietR_of ?h97) <| stk 12 (v:=?v98) (fun S' hz=>dquietR_of ?h98) <| ?k98;(case h87 | h88 | h89 | h90 | h91 | h92 | h93 | h94 | h95 | h96 | h97 | h98=>((simp (disch:=first | decide | omega | (simp only [nx];first | done | omega)) only [go_sem,q3b,q7b,q10,outS,hlt,hz];(repeat with_reducible refine aI ?_));first | done | exact rfl | omega)));(refine s_one 8 ?_;(refine dd0 ?_));(refine dapp_at (lo:=lo) heU (by kernel_rfl) h5.r1 (wU _) (xU _) (by simp (disch:=first | decide | omega | (simp only [nx];first | done | omega)) only [go_sem];omega) (by simp (disch:=first | decide | omega | (simp only [nx];first | done | omega)) only [go_sem];omega) ?_);(refine ⟨⟨h5.at1b hX (by omega) x3,h5.at1b hX (by omega) x7,h5.at1b hX (by omega) x11⟩,?_⟩);(refine stk 14 (v:=?v99) (fun S' hz=>dquietR_of ?h99) ?k99;(case h99=>((simp (disch:=first | decide | omega | (simp only [nx];first | done | omega)) only [go_sem,q3b,q7b,q10,outS,hlt,hz];(repeat with_reducible refine aI ?_));first | done | exact rfl | omega)));(refine s_one 13 ?_;(refine dd0 ?_));(refine dapp_at (lo:=lo) heV (by kernel_rfl) (h5.row2 hX (by decide)) (wV _) (xV _) (by simp (disch:=first | decide | omega | (simp only [nx];first | done | omega)) only [go_sem];omega) (by simp (disch:=first | decide | omega | (simp only [nx];first | done | omega)) only [go_sem];omega) ?_);(refine ⟨⟨h5.at2b hX (by omega) x3,h5.at2b hX (by omega) x7,h5.at2b hX (by omega) x11⟩,?_⟩))
      (refine s_done (by kernel_rfl) ?_;(simp (disch:=first | decide | omega | (simp only [nx];first | done | omega)) only [go_sem,q7b,y7,outS,q3b,q10,y3,w5];(repeat with_reducible refine aI ?_)))
      have key:=twoS_step h5 hX lnX (by decide) (L1':=l1.map strD++[strD v.words[i]]) (L2':=l2.map encS++[encS q]) (B:=.box 25 (outS v (.sl (.row X.next) (l1.map strD++[strD v.words[i]])) (.sl (Own.row (T.next+1)) (l2.map encS)))) (m1:=l1.length+1) (m2:=l2.length+1) (by simp) (by simp)
      simp only [outS,strD] at key
      revert key
      generalize St.set (St.set _ _ _) _ _=T5
      rintro ⟨h6,hF5,hT5,hn5⟩
      refine ⟨by omega,T5.ob,fun _ _ h=>h,by omega,by exact di2 @q7b @a1,by exact di0,⟨(.row X.next),(.row (X.next+1)),?_⟩,?_,by show lo≤T5.next;omega⟩
      ·rw [a2,a3,List.map_append,List.map_append]
       exact h6
      ·have hFX:Fz (fun j=>j ≠ S.next+1+1+1∧j<lo) T2 X:=⟨by omega,fun j o' hj e=>by rw [xo j (by omega)];exact e⟩
       exact ((hF4.trans hFX).trans hF5).mono fun _ h=>⟨h.1,h.2⟩

     ·have b8:((i:Int) == ixI v.words x)=false:=by simp [hik]
      have hqp:q=v.parts[i]:=by rw [hq,wqS,if_neg hik,getD_at hlp]
      (simp (disch:=first | decide | omega | (simp only [nx];first | done | omega)) only [go_sem,q7b,q3b,q5b,q8b,q10,t3',t5',hlt,hlp,b8];(repeat with_reducible refine aI ?_))
      rw [← hqp]
      generalize hXe:St.set (St.add _ _) _ _=X
      
      have xo:∀ j,j<T2.next→X.ob j=T2.ob j:=fun j hj=>by
       have hj1:j ≠ T2.next:=by omega
       rw [← hXe];exact di1 @hj1
      have x11:X.ob T2.next=some (.box 25 (encS q).cells):=by rw [← hXe];exact di0
      have xn:X.next=T2.next+1:=by rw [← hXe];simp only [add_next,set_next]
      have hX:X.WF:=by rw [← hXe];exact wfA
      clear hXe
      have h5:=h3.old hT2 xo
      have x3:=(xo _ (by omega)).trans t3'
      have x7:=h5.box
      have lnX:lo≤X.next:=by omega
      have y3:∀ m m2,((X.grow (Own.row T.next) 9 m).grow (Own.row (T.next+1)) 25 m2).ob S.next=some (.box 25 (encS v).cells):=fun m m2=>h5.at2b hX (by omega) x3
      have y7:∀ m m2,((X.grow (Own.row T.next) 9 m).grow (Own.row (T.next+1)) 25 m2).ob (S.next+1+1+1)=some (.box 25 (outS v (.sl (Own.row T.next) (l1.map strD)) (.sl (Own.row (T.next+1)) (l2.map encS)))):=fun m m2=>h5.at2b hX (by omega) x7
      (refine ddraw_any (fun S'=>S'.ob S.next=some (.box 25 (encS v).cells)∧S'.ob (S.next+1+1+1)=some (.box 25 (outS v (.sl (Own.row T.next) (l1.map strD)) (.sl (Own.row (T.next+1)) (l2.map encS))))∧S'.ob T2.next=some (.box 25 (encS q).cells)) 15 (by exact di3 @x3 @x7 @x11) (by kernel_rfl) ?_;(refine stk 0 (v:=?v100) (fun S' hz=>dquietR_of ?h100) <| stk 1 (v:=?v101) (fun S' hz=>dquietR_of ?h101) <| stk 2 (v:=?v102) (fun S' hz=>dquietR_of ?h102) <| stk 3 (v:=?v103) (fun S' hz=>dquietR_of ?h103) <| stk 4 (v:=?v104) (fun S' hz=>dquietR_of ?h104) <| stk 5 (v:=?v105) (fun S' hz=>dquietR_of ?h105) <| stk 6 (v:=?v106) (fun S' hz=>dquietR_of ?h106) <| stk 7 (v:=?v107) (fun S' hz=>dquietR_of ?h107) <| stk 9 (v:=?v108) (fun S' hz=>dquietR_of ?h108) <| stk 10 (v:=?v109) (fun S' hz=>dquietR_of ?h109) <| stk 11 (v:=?v110) (fun S' hz=>dquietR_of ?h110) <| stk 12 (v:=?v111) (fun S' hz=>dquietR_of ?h111) <| ?k111;(case h100 | h101 | h102 | h103 | h104 | h105 | h106 | h107 | h108 | h109 | h110 | h111=>((simp (disch:=first | decide | omega | (simp only [nx];first | done | omega)) only [go_sem,q3b,q7b,q10,outS,hlt,hz];(repeat with_reducible refine aI ?_));first | done | exact rfl | omega)));(refine s_one 8 ?_;(refine dd0 ?_));(refine dapp_at (lo:=lo) heU (by kernel_rfl) h5.r1 (wU _) (xU _) (by simp (disch:=first | decide | omega | (simp only [nx];first | done | omega)) only [go_sem];omega) (by simp (disch:=first | decide | omega | (simp only [nx];first | done | omega)) only [go_sem];omega) ?_);(refine ⟨⟨h5.at1b hX (by omega) x3,h5.at1b hX (by omega) x7,h5.at1b hX (by omega) x11⟩,?_⟩);(refine stk 14 (v:=?v112) (fun S' hz=>dquietR_of ?h112) ?k112;(case h112=>((simp (disch:=first | decide | omega | (simp only [nx];first | done | omega)) only [go_sem,q3b,q7b,q10,outS,hlt,hz];(repeat with_reducible refine aI ?_));first | done | exact rfl | omega)));(refine s_one 13 ?_;(refine dd0 ?_));(refine dapp_at (lo:=lo) heV (by kernel_rfl) (h5.row2 hX (by decide)) (wV _) (xV _) (by simp (disch:=first | decide | omega | (simp only [nx];first | done | omega)) only [go_sem];omega) (by simp (disch:=first | decide | omega | (simp only [nx];first | done | omega)) only [go_sem];omega) ?_);(refine ⟨⟨h5.at2b hX (by omega) x3,h5.at2b hX (by omega) x7,h5.at2b hX (by omega) x11⟩,?_⟩))
      (refine s_done (by kernel_rfl) ?_;(simp (disch:=first | decide | omega | (simp only [nx];first | done | omega)) only [go_sem,q7b,y7,outS,q3b,q10,y3,w5];(repeat with_reducible refine aI ?_)))
      have key:=twoS_step h5 hX lnX (by decide) (L1':=l1.map strD++[strD v.words[i]]) (L2':=l2.map encS++[encS q]) (B:=.box 25 (outS v (.sl (.row X.next) (l1.map strD++[strD v.words[i]])) (.sl (Own.row (T.next+1)) (l2.map encS)))) (m1:=l1.length+1) (m2:=l2.length+1) (by simp) (by simp)
      simp only [outS,strD] at key
      revert key
      generalize St.set (St.set _ _ _) _ _=T5
      rintro ⟨h6,hF5,hT5,hn5⟩
      refine ⟨by omega,T5.ob,fun _ _ h=>h,by omega,by exact di2 @q7b @a1,by exact di0,⟨(.row X.next),(.row (X.next+1)),?_⟩,?_,by show lo≤T5.next;omega⟩
      ·rw [a2,a3,List.map_append,List.map_append]
       exact h6
      ·have hFX:Fz (fun j=>j ≠ S.next+1+1+1∧j<lo) T2 X:=⟨by omega,fun j o' hj e=>by rw [xo j (by omega)];exact e⟩
       exact ((hF4.trans hFX).trans hF5).mono fun _ h=>⟨h.1,h.2⟩


 ·have b1:decide ((i:Int)<(v.words.length:Int))=false:=by simp;omega
  have hi:i=v.words.length:=by omega
  have hrw:refWithS v x p=v.ofFields (if (wstS v x p v.words.length).1=true then (wstS v x p v.words.length).2.1 else (wstS v x p v.words.length).2.1++[x]) ((if (wstS v x p v.words.length).1=true then (wstS v x p v.words.length).2.2 else (wstS v x p v.words.length).2.2++[p])++v.parts.drop v.words.length):=by rw [refWithS,if_neg (by rw [hwh];simp)]
  subst hi
  cases hd:(wstS v x p v.words.length).1 with
  | true =>
   rw [hd,if_pos rfl,if_pos rfl] at hrw
   rw [hd] at q9
   (simp (disch:=first | decide | omega | (simp only [nx];first | done | omega)) only [go_sem,q3b,q9,q10,b1,t3];(repeat with_reducible refine aI ?_))
   generalize (wstS v x p v.words.length).2.1=l1 at *
   generalize (wstS v x p v.words.length).2.2=l2 at *
   
   have t3':=hF.ob _ _ ⟨by omega,by omega⟩ u3
   have t6':=hF.ob _ _ ⟨by omega,by omega⟩ u6
   have x7:=h2.box
   have lT:=hln
   have l3:(∀ d,d∈List.map encS v.parts→d.cells.length=3)=True:=eq_true fun d hd=>by obtain ⟨q,_,rfl⟩:=List.mem_map.1 hd;exact cells_encS q
   have l4:((v.words.length:Int)≤(v.parts.length:Int))=True:=eq_true (by omega)
   have gk:∀ {j m t cs},j<T.next→T.ob j=some (.box t cs)→(T.grow o2 25 m).ob j=some (.box t cs):=fun hj e=>by rw [grow_skip (by omega) (h2.r2.ne (.inr ⟨_,_,e⟩)),e]
   have y7:∀ m,(T.grow o2 25 m).ob (S.next+1+1+1)=some (.box 25 (outS v (.sl o1 (l1.map strD)) (.sl o2 (l2.map encS)))):=fun m=>gk (by omega) x7
   have y6:∀ m,(T.grow o2 25 m).ob (S.next+1+1)=some (.box 25 [.v (.int .i64 0),.sl .full [],.sl .full []]):=fun m=>gk (by omega) t6'
   refine ddraw_any (fun S'=>S'.ob S.next=some (.box 25 (encS v).cells)∧S'.ob (S.next+1+1+1)=some (.box 25 (outS v (.sl o1 (l1.map strD)) (.sl o2 (l2.map encS))))) 10 (by exact di2 @t3' @x7) (by kernel_rfl) ?_
   (refine stk 0 (v:=?v10) (fun S' hz=>dquietR_of ?h10) <| stk 1 (v:=?v11) (fun S' hz=>dquietR_of ?h11) <| stk 2 (v:=?v12) (fun S' hz=>dquietR_of ?h12) <| stk 3 (v:=?v13) (fun S' hz=>dquietR_of ?h13) <| stk 4 (v:=?v14) (fun S' hz=>dquietR_of ?h14) <| stk 5 (v:=?v15) (fun S' hz=>dquietR_of ?h15) <| stk 6 (v:=?v16) (fun S' hz=>dquietR_of ?h16) <| ?k16;(case h10 | h11 | h12 | h13 | h14 | h15 | h16=>((simp (disch:=first | decide | omega | (simp only [nx];first | done | omega)) only [go_sem,q3b,q7b,outS,hz];(repeat with_reducible refine aI ?_));first | done | exact rfl | omega)))
   (refine s_take 7 rfl (by kernel_rfl) (by kernel_rfl) (v:=.sl .no ((v.parts.map encS).drop v.words.length)) (fun S' hz=>dquietR_of (by (simp (disch:=first | decide | omega | (simp only [nx];first | done | omega)) only [go_sem,l3,l4,or_true];(repeat with_reducible refine aI ?_));first | done | rfl | omega)) ?_)
   (refine s_one 8 ?_;(refine dd0 ?_))
   refine dapp_more heV (by kernel_rfl) (h2.r2.elim (fun e=>.inl e.1) (fun ⟨g,e1,_,e2⟩=>.inr ⟨g,e1,e2⟩)) (wV l2) (fun d hd=>wV v.parts d (List.mem_of_mem_drop hd)) (by simp only [List.length_drop,List.length_map];omega) (by simp only [hbV,List.length_drop,List.length_map];omega) ?_
   refine ⟨⟨gk (by omega) t3',y7 _⟩,?_⟩
   (refine stk 9 (v:=?v17) (fun S' hz=>dquietR_of ?h17) ?k17;(case h17=>((simp (disch:=first | decide | omega | (simp only [nx];first | done | omega)) only [go_sem,q7b,hz];(repeat with_reducible refine aI ?_));first | done | exact rfl | omega)))
   (refine s_done (by kernel_rfl) ?_;(simp (disch:=first | decide | omega | (simp only [nx];first | done | omega)) only [go_sem,q6b,q7b,y6,y7,outS];(repeat with_reducible refine aI ?_)))
   have hcc:List.map encS l2++List.drop v.words.length (List.map encS v.parts)=(l2++v.parts.drop v.words.length).map encS:=by simp
   rw [hcc,hrw]
   refine ⟨?_,?_⟩
   ·simp only [D.frz,frzL,frz_strs,frz_mapS,sv]
    rw [encS_eq (v.ofFields _ _)];rfl
   ·have hTx:=hF.next
    refine ⟨by simp only [nx];omega,fun j ob e=>?_⟩
    have hj:=hS.lt e
    simp only [St.set]
    rw [if_neg (by omega),if_neg (by omega),grow_skip (by omega) (h2.r2.ne (.inl (by omega)))]
    exact hF.ob _ _ ⟨by omega,by omega⟩ (hF0.ob _ _ e)

  | false =>
   rw [hd,if_neg (by simp),if_neg (by simp)] at hrw
   rw [hd] at q9
   (simp (disch:=first | decide | omega | (simp only [nx];first | done | omega)) only [go_sem,q3b,q9,q10,b1,t3];(repeat with_reducible refine aI ?_))
   generalize (wstS v x p v.words.length).2.1=k1 at *
   generalize (wstS v x p v.words.length).2.2=k2 at *
   have y5:∀ m m2,((T.grow o1 9 m).grow o2 25 m2).ob (S.next+1)=some (.box 25 (encS p).cells):=fun m m2=>h2.at2 hT (by omega) t5
   have y7':∀ m m2,((T.grow o1 9 m).grow o2 25 m2).ob (S.next+1+1+1)=some (.box 25 (outS v (.sl o1 (k1.map strD)) (.sl o2 (k2.map encS)))):=fun m m2=>h2.at2b hT (hT.lt t7) t7
   (refine ddraw_any (fun S'=>S'.ob (S.next+1)=some (.box 25 (encS p).cells)∧S'.ob (S.next+1+1+1)=some (.box 25 (outS v (.sl o1 (k1.map strD)) (.sl o2 (k2.map encS))))) 11 (by exact di2 @t5 @t7) (by kernel_rfl) ?_;(refine stk 0 (v:=?v18) (fun S' hz=>dquietR_of ?h18) <| stk 1 (v:=?v19) (fun S' hz=>dquietR_of ?h19) <| stk 2 (v:=?v20) (fun S' hz=>dquietR_of ?h20) <| stk 3 (v:=?v21) (fun S' hz=>dquietR_of ?h21) <| stk 5 (v:=?v22) (fun S' hz=>dquietR_of ?h22) <| stk 6 (v:=?v23) (fun S' hz=>dquietR_of ?h23) <| stk 7 (v:=?v24) (fun S' hz=>dquietR_of ?h24) <| stk 8 (v:=?v25) (fun S' hz=>dquietR_of ?h25) <| ?k25;(case h18 | h19 | h20 | h21 | h22 | h23 | h24 | h25=>((simp (disch:=first | decide | omega | (simp only [nx];first | done | omega)) only [go_sem,q1b,q5b,q7b,outS,hz];(repeat with_reducible refine aI ?_));first | done | exact rfl | omega)));(refine s_one 4 ?_;(refine dd0 ?_));(refine dapp_at (lo:=lo) heU (by kernel_rfl) h2.r1 (wU _) (xU x) (by simp (disch:=first | decide | omega | (simp only [nx];first | done | omega)) only [go_sem];omega) (by simp (disch:=first | decide | omega | (simp only [nx];first | done | omega)) only [go_sem];omega) ?_);(refine ⟨⟨h2.at1 hT (by omega) t5,h2.at1b hT (by omega) t7⟩,?_⟩);(refine stk 10 (v:=?v26) (fun S' hz=>dquietR_of ?h26) ?k26;(case h26=>((simp (disch:=first | decide | omega | (simp only [nx];first | done | omega)) only [go_sem,q1b,q5b,q7b,outS,hz];(repeat with_reducible refine aI ?_));first | done | exact rfl | omega)));(refine s_one 9 ?_;(refine dd0 ?_));(refine dapp_at (lo:=lo) heV (by kernel_rfl) (h2.row2 hT (by decide)) (wV _) (xV p) (by simp (disch:=first | decide | omega | (simp only [nx];first | done | omega)) only [go_sem];omega) (by simp (disch:=first | decide | omega | (simp only [nx];first | done | omega)) only [go_sem];omega) ?_);(refine ⟨⟨h2.at2 hT (by omega) t5,h2.at2b hT (by omega) t7⟩,?_⟩))
   (refine s_done (by kernel_rfl) ?_;(simp (disch:=first | decide | omega | (simp only [nx];first | done | omega)) only [go_sem,q7b,y7',outS,q10];(repeat with_reducible refine aI ?_)))
   have key:=twoS_step h2 hT hln (by decide) (L1':=k1.map strD++[strD x]) (L2':=k2.map encS++[encS p]) (B:=.box 25 (outS v (.sl (.row T.next) (k1.map strD++[strD x])) (.sl o2 (k2.map encS)))) (m1:=k1.length+1) (m2:=k2.length+1) (by simp) (by simp)
   simp only [outS,strD] at key
   revert key
   generalize St.set (St.set _ _ _) _ _=T2
   rintro ⟨h3,hF3,hT2,hn3⟩
   have c1:k1.map strD++[.v (sv x)]=(k1++[x]).map strD:=by simp [strD]
   have c2:k2.map encS++[encS p]=(k2++[p]).map encS:=by simp
   rw [c1,c2] at h3
   have hF4:=hF.trans hF3
   have hln4:lo≤T2.next:=by omega
   have il:(k1++[x]).length≤2 * v.words.length+1∧(k2++[p]).length≤2 * v.words.length+1:=by simp only [List.length_append,List.length_cons,List.length_nil];omega
   generalize k1++[x]=l1 at *
   generalize k2++[p]=l2 at *
   
   have t3':=hF4.ob _ _ ⟨by omega,by omega⟩ u3
   have t6':=hF4.ob _ _ ⟨by omega,by omega⟩ u6
   have x7:=h3.box
   have lT:=hln4
   have l3:(∀ d,d∈List.map encS v.parts→d.cells.length=3)=True:=eq_true fun d hd=>by obtain ⟨q,_,rfl⟩:=List.mem_map.1 hd;exact cells_encS q
   have l4:((v.words.length:Int)≤(v.parts.length:Int))=True:=eq_true (by omega)
   have gk:∀ {j m t cs},j<T2.next→T2.ob j=some (.box t cs)→(T2.grow (Own.row (T.next+1)) 25 m).ob j=some (.box t cs):=fun hj e=>by rw [grow_skip (by omega) (h3.r2.ne (.inr ⟨_,_,e⟩)),e]
   have y7:∀ m,(T2.grow (Own.row (T.next+1)) 25 m).ob (S.next+1+1+1)=some (.box 25 (outS v (.sl (Own.row T.next) (l1.map strD)) (.sl (Own.row (T.next+1)) (l2.map encS)))):=fun m=>gk (by omega) x7
   have y6:∀ m,(T2.grow (Own.row (T.next+1)) 25 m).ob (S.next+1+1)=some (.box 25 [.v (.int .i64 0),.sl .full [],.sl .full []]):=fun m=>gk (by omega) t6'
   refine ddraw_any (fun S'=>S'.ob S.next=some (.box 25 (encS v).cells)∧S'.ob (S.next+1+1+1)=some (.box 25 (outS v (.sl (Own.row T.next) (l1.map strD)) (.sl (Own.row (T.next+1)) (l2.map encS))))) 10 (by exact di2 @t3' @x7) (by kernel_rfl) ?_
   (refine stk 0 (v:=?v27) (fun S' hz=>dquietR_of ?h27) <| stk 1 (v:=?v28) (fun S' hz=>dquietR_of ?h28) <| stk 2 (v:=?v29) (fun S' hz=>dquietR_of ?h29) <| stk 3 (v:=?v30) (fun S' hz=>dquietR_of ?h30) <| stk 4 (v:=?v31) (fun S' hz=>dquietR_of ?h31) <| stk 5 (v:=?v32) (fun S' hz=>dquietR_of ?h32) <| stk 6 (v:=?v33) (fun S' hz=>dquietR_of ?h33) <| ?k33;(case h27 | h28 | h29 | h30 | h31 | h32 | h33=>((simp (disch:=first | decide | omega | (simp only [nx];first | done | omega)) only [go_sem,q3b,q7b,outS,hz];(repeat with_reducible refine aI ?_));first | done | exact rfl | omega)))
   (refine s_take 7 rfl (by kernel_rfl) (by kernel_rfl) (v:=.sl .no ((v.parts.map encS).drop v.words.length)) (fun S' hz=>dquietR_of (by (simp (disch:=first | decide | omega | (simp only [nx];first | done | omega)) only [go_sem,l3,l4,or_true];(repeat with_reducible refine aI ?_));first | done | rfl | omega)) ?_)
   (refine s_one 8 ?_;(refine dd0 ?_))
   refine dapp_more heV (by kernel_rfl) (h3.r2.elim (fun e=>.inl e.1) (fun ⟨g,e1,_,e2⟩=>.inr ⟨g,e1,e2⟩)) (wV l2) (fun d hd=>wV v.parts d (List.mem_of_mem_drop hd)) (by simp only [List.length_drop,List.length_map];omega) (by simp only [hbV,List.length_drop,List.length_map];omega) ?_
   refine ⟨⟨gk (by omega) t3',y7 _⟩,?_⟩
   (refine stk 9 (v:=?v34) (fun S' hz=>dquietR_of ?h34) ?k34;(case h34=>((simp (disch:=first | decide | omega | (simp only [nx];first | done | omega)) only [go_sem,q7b,hz];(repeat with_reducible refine aI ?_));first | done | exact rfl | omega)))
   (refine s_done (by kernel_rfl) ?_;(simp (disch:=first | decide | omega | (simp only [nx];first | done | omega)) only [go_sem,q6b,q7b,y6,y7,outS];(repeat with_reducible refine aI ?_)))
   have hcc:List.map encS l2++List.drop v.words.length (List.map encS v.parts)=(l2++v.parts.drop v.words.length).map encS:=by simp
   rw [hcc,hrw]
   refine ⟨?_,?_⟩
   ·simp only [D.frz,frzL,frz_strs,frz_mapS,sv]
    rw [encS_eq (v.ofFields _ _)];rfl
   ·have hTx:=hF4.next
    refine ⟨by simp only [nx];omega,fun j ob e=>?_⟩
    have hj:=hS.lt e
    simp only [St.set]
    rw [if_neg (by omega),if_neg (by omega),grow_skip (by omega) (h3.r2.ne (.inl (by omega)))]
    exact hF4.ob _ _ ⟨by omega,by omega⟩ (hF0.ob _ _ e)
theorem greatSD (v:DSch) (hok:okS v):DPure Tryz.prog 8 [encS v] (.v (.bool (greatS v))):=greatS_d v hok
theorem greatVD (v:DVal) (hok:okV v):DPure Tryz.prog 57 [encV v] (.v (.bool (greatV v))):=greatV_d v hok
theorem roomL_no (k:Nat) (l:DLens) (h:(decide ((l.inner.length:Int) > 2) || decide ((l.pairs.length:Int) > 20) || decide ((l.a.length:Int) > 100) || decide ((l.b.length:Int) > 100) || greatS l.typ || greatV l.base || greatV l.back)=true):roomL (k+1) l=false:=by
 rw [roomL]
 simp only [Bool.or_eq_true,decide_eq_true_eq] at h
 rcases h with (((((h | h) | h) | h) | h) | h) | h
 ·rw [decide_eq_false (show ¬ l.inner.length≤2 by omega)];simp
 ·rw [decide_eq_false (show ¬ l.pairs.length≤20 by omega)];simp
 ·rw [decide_eq_false (show ¬ l.a.length≤100 by omega)];simp
 ·rw [decide_eq_false (show ¬ l.b.length≤100 by omega)];simp
 ·rw [h];simp
 ·rw [h];simp
 ·rw [h];simp
section
set_option maxRecDepth 200000
set_option maxHeartbeats 8000000
theorem room14_d (k:Nat) (hk:k≤1000):∀ l,okL l→DPure Tryz.prog 46 [encL l,.v (.int .i64 ((k:Nat):Int))] (.v (.bool (roomL k l))):=by
 induction k with
 | zero =>
  intro l hok
  refine dpure_of_dwp mixed Tryz.func46 rfl (fun _ _=>by kernel_rfl) (rs:=[.tmp 4]) rfl (by kernel_rfl) trivial (fun S hS=>?_)
  have e0:(((0:Nat):Int) == 0)=true:=by decide
  (refine dd2 (encL_eq l) @e0 ?_)
  refine pendL ?_
  rfl
 | succ k ih =>
  intro l hok
  have ho:=(okL_eq l).1 hok
  have e0:(((k+1:Nat):Int) == 0)=false:=by rw [beq_eq_false_iff_ne];omega
  refine dpure_of_dwp mixed Tryz.func46 rfl (fun _ _=>by kernel_rfl) (rs:=[.tmp 4]) rfl (by kernel_rfl) trivial (fun S hS=>?_)
  cases hb1':decide ((l.inner.length:Int) > 2) with
  | true =>
   (refine dd3 (encL_eq l) @e0 @hb1' ?_)
   refine pendL ?_
   rw [show roomL (k+1) l=false from roomL_no _ _ (by simp only [hb1',Bool.true_or,Bool.or_true,Bool.false_or])];rfl
  | false =>
  cases hb2:decide ((l.pairs.length:Int) > 20) with
  | true =>
   (refine dd4 (encL_eq l) @e0 @hb1' @hb2 ?_)
   refine pendL ?_
   rw [show roomL (k+1) l=false from roomL_no _ _ (by simp only [hb1',hb2,Bool.true_or,Bool.or_true,Bool.false_or])];rfl
  | false =>
  cases hb3:decide ((l.a.length:Int) > 100) with
  | true =>
   (refine dd5 (encL_eq l) @e0 @hb1' @hb2 @hb3 ?_)
   refine pendL ?_
   rw [show roomL (k+1) l=false from roomL_no _ _ (by simp only [hb1',hb2,hb3,Bool.true_or,Bool.or_true,Bool.false_or])];rfl
  | false =>
  cases hb4:decide ((l.b.length:Int) > 100) with
  | true =>
   (refine dd6 (encL_eq l) @e0 @hb1' @hb2 @hb3 @hb4 ?_)
   refine pendL ?_
   rw [show roomL (k+1) l=false from roomL_no _ _ (by simp only [hb1',hb2,hb3,hb4,Bool.true_or,Bool.or_true,Bool.false_or])];rfl
  | false =>
  (refine dd6 (encL_eq l) @e0 @hb1' @hb2 @hb3 @hb4 ?_)
  rw [aggS_fold]
  refine DCalls.of_pure (greatSD l.typ ho.2.2.2.1) ?_
  cases hb5:greatS l.typ with
  | true =>
   (refine dd0 ?_)
   refine pendL ?_
   rw [show roomL (k+1) l=false from roomL_no _ _ (by simp only [hb1',hb2,hb3,hb4,hb5,Bool.true_or,Bool.or_true,Bool.false_or])];rfl
  | false =>
  (refine dd5 @hb1' @hb2 @hb3 @hb4 @hb5 ?_)
  rw [aggV_fold]
  refine DCalls.of_pure (greatVD l.base ho.2.2.2.2.1) ?_
  cases hb6:greatV l.base with
  | true =>
   (refine dd0 ?_)
   refine pendL ?_
   rw [show roomL (k+1) l=false from roomL_no _ _ (by simp only [hb1',hb2,hb3,hb4,hb5,hb6,Bool.true_or,Bool.or_true,Bool.false_or])];rfl
  | false =>
  (refine dd6 @hb1' @hb2 @hb3 @hb4 @hb5 @hb6 ?_)
  rw [aggV_fold]
  refine DCalls.of_pure (greatVD l.back ho.2.2.2.2.2.1) ?_
  cases hb7:greatV l.back with
  | true =>
   (refine dd0 ?_)
   refine pendL ?_
   rw [show roomL (k+1) l=false from roomL_no _ _ (by simp only [hb1',hb2,hb3,hb4,hb5,hb6,hb7,Bool.true_or,Bool.or_true,Bool.false_or])];rfl
  | false =>
  (refine dd0 ?_)
  generalize hX:St.add S _=S1
  have hs1:S.Sub S1:=by rw [← hX];exact (St.Sub.refl S).add hS _
  have hW1:S1.WF:=by rw [← hX];exact hS.add _
  have hb1:S1.ob S.next=some (.box 47 [.v (.int .i64 l.kind),D.v (sv l.a),D.v (sv l.b),.v (.int .i64 l.typ.kind),.sl .no (l.typ.words.map strD),.sl .no (l.typ.parts.map encS),
  .v (.int .i64 l.base.kind),.v (.int .i64 l.base.n),D.v (sv l.base.s),.sl .no (l.base.names.map strD),.sl .no (l.base.ids.map u64D),.sl .no (l.base.parts.map encV),
  .v (.int .i64 l.back.kind),.v (.int .i64 l.back.n),D.v (sv l.back.s),.sl .no (l.back.names.map strD),.sl .no (l.back.ids.map u64D),.sl .no (l.back.parts.map encV),.sl .no (l.pairs.map encPr),.sl .no (l.inner.map encL)]):=by rw [← hX];exact di0
  clear hX
  have hpl:l.pairs.length≤20:=by have:=of_decide_eq_false hb2;omega
  have hil:l.inner.length≤2:=by have:=of_decide_eq_false hb1';omega
  have hroom:roomL (k+1) l=(l.pairs.all (fun p => !greatV p.1 && !greatV p.2) && l.inner.all (roomL k)):=by
   have h3:=of_decide_eq_false hb3
   have h4:=of_decide_eq_false hb4
   rw [roomL,hb5,hb6,hb7,decide_eq_true hil,decide_eq_true hpl,decide_eq_true (show l.a.length≤100 by omega),decide_eq_true (show l.b.length≤100 by omega)]
   simp
  (refine dloop_st (fun t=>List.contains [4,5,48,49,50,51,52,53,54,55,56,57,58,59,60,61,62,63,64,65,66,67,68,69,70] t) (by kernel_rfl) ?_ (l.pairs.length) (fun i f=>i≤l.pairs.length∧f 5=.v (.int .i64 (i:Nat))∧(∀ j (h:j<l.pairs.length),j<i→(!greatV l.pairs[j].1 && !greatV l.pairs[j].2)=true)) ?_ ?_;(exact wfA);(exact ⟨(by omega),(by exact di1 @hb1),(fun j _ h=>absurd h (by omega))⟩);intro i g tn hn hT hg hI;obtain ⟨le,q5,hs⟩:=hI;have q1:=hg 1 rfl;have q2:=hg 2 rfl;simp (disch:=first | decide | omega | (simp only [nx];first | done | omega)) only [go_sem,hb1] at q1 q2;clear hg;have hn':=hn;try simp only [add_next,set_next,grow_next,leave_next,drop_next] at hn')
  have hw1:IntKind.i64.wrap ((i:Int)+1)=((i+1:Nat):Int):=IntWalk.i64_in _ ⟨by omega,by omega⟩
  by_cases hlt:i<l.pairs.length
  ·have b1:decide ((i:Int)<(l.pairs.length:Int))=true:=decide_eq_true (by omega)
   have hxp:=getD_map encPr l.pairs i hlt
   have hok2:=ho.2.2.2.2.2.2.1 l.pairs[i] (List.getElem_mem hlt)
   (refine dd7 @q2 @q5 @hb1 @b1 @hxp @encPr_eq @hlt ?_)
   rw [aggV_fold]
   refine DCalls.of_pure (greatVD _ hok2.1) ?_
   cases hx1:greatV l.pairs[i].1 with
   | true =>
    (refine dd3 @q2 @q5 @hb1 ?_)
    refine ⟨?_,⟨Nat.le_trans hs1.next hn,fun _ _ h=>hs1.ob _ _ h⟩⟩
    rw [hroom,show l.pairs.all (fun p => !greatV p.1 && !greatV p.2)=false from List.all_eq_false.2 ⟨_,List.getElem_mem hlt,by rw [hx1];simp⟩]
    rfl
   | false =>
    (refine dd6 @q2 @q5 @hb1 @hxp @encPr_eq @hlt ?_)
    rw [aggV_fold]
    refine DCalls.of_pure (greatVD _ hok2.2) ?_
    cases hx2:greatV l.pairs[i].2 with
    | true =>
     (refine dd3 @q2 @q5 @hb1 ?_)
     refine ⟨?_,⟨Nat.le_trans hs1.next hn,fun _ _ h=>hs1.ob _ _ h⟩⟩
     rw [hroom,show l.pairs.all (fun p => !greatV p.1 && !greatV p.2)=false from List.all_eq_false.2 ⟨_,List.getElem_mem hlt,by rw [hx2];simp⟩]
     rfl
    | false =>
     (refine dd4 @q2 @q5 @hb1 @hw1 ?_)
     refine ⟨by omega,⟨hn,fun _ _ h=>h⟩,by omega,?_,fun j hj hji=>?_⟩
     ·exact di1 @hw1
     ·by_cases e:j=i
      ·subst e;rw [hx1,hx2];rfl
      ·exact hs j hj (by omega)
  ·have b1:decide ((i:Int)<(l.pairs.length:Int))=false:=decide_eq_false (by omega)
   (refine dd4 @q2 @q5 @hb1 @b1 ?_)
   have hall:l.pairs.all (fun p => !greatV p.1 && !greatV p.2)=true:=List.all_eq_true.2 fun p hp=>by
    obtain ⟨j,hj,rfl⟩:=List.getElem_of_mem hp
    exact hs j hj (by omega)
   rw [hall,Bool.true_and] at hroom
   clear hs
   generalize hX:St.mk tn S1.ob=S2
   have hs2:S.Sub S2:=by rw [← hX];exact ⟨Nat.le_trans hs1.next hn,fun _ _ h=>hs1.ob _ _ h⟩
   have hW2:S2.WF:=by rw [← hX];assumption
   have hb2':=hb1
   have hb2:S2.ob S.next=S1.ob S.next:=by rw [← hX]
   rw [hb1] at hb2
   clear hX
   (refine dloop_st (fun t=>List.contains [4,6,71,72,73,74,75,76,77,78,79,80,81,82,83,84,85,86] t) (by kernel_rfl) ?_ (l.inner.length) (fun ic f=>ic≤l.inner.length∧f 6=.v (.int .i64 (ic:Nat))∧(∀ j (h:j<l.inner.length),j<ic→roomL k l.inner[j]=true)) ?_ ?_;(exact wfA);(exact ⟨(by omega),(by exact di3 @hb2 @q2 @q1),(fun j _ h=>absurd h (by omega))⟩);intro ic gc tnc hnc hTc hgc hIc;obtain ⟨lec,q6c,hs⟩:=hIc;have q1c:=hgc 1 rfl;have q2c:=hgc 2 rfl;simp (disch:=first | decide | omega | (simp only [nx];first | done | omega)) only [go_sem,hb2,q2,q1] at q1c q2c;clear hgc;have hnc':=hnc;try simp only [add_next,set_next,grow_next,leave_next,drop_next] at hnc')
   have hw2:IntKind.i64.wrap ((ic:Int)+1)=((ic+1:Nat):Int):=IntWalk.i64_in _ ⟨by omega,by omega⟩
   have hwk:IntKind.i64.wrap (((k+1:Nat):Int) - 1)=((k:Nat):Int):=(IntWalk.i64_in _ ⟨by omega,by omega⟩).trans (by omega)
   by_cases hlt:ic<l.inner.length
   ·have b1:decide ((ic:Int)<(l.inner.length:Int))=true:=decide_eq_true (by omega)
    have hxp:=getD_map encL l.inner ic hlt
    have hok2:=ho.2.2.2.2.2.2.2.2.2 l.inner[ic] (List.getElem_mem hlt)
    (refine dd8 @q2c @q6c @q1c @hb2 @b1 @hxp @hlt @hwk ?_)
    refine DCalls.of_pure (ih (by omega) _ hok2) ?_
    cases hx1:roomL k l.inner[ic] with
    | true =>
     (refine dd4 @q2c @q6c @hb2 @hw2 ?_)
     refine ⟨by omega,⟨hnc,fun _ _ h=>h⟩,by omega,?_,fun j hj hji=>?_⟩
     ·exact di1 @hw2
     ·by_cases e:j=ic
      ·subst e;exact hx1
      ·exact hs j hj (by omega)
    | false =>
     (refine dd3 @q2c @q6c @hb2 ?_)
     refine ⟨?_,⟨Nat.le_trans hs2.next hnc,fun _ _ h=>hs2.ob _ _ h⟩⟩
     rw [hroom,show l.inner.all (roomL k)=false from List.all_eq_false.2 ⟨_,List.getElem_mem hlt,by rw [hx1];simp⟩]
     rfl
   ·have b1:decide ((ic:Int)<(l.inner.length:Int))=false:=decide_eq_false (by omega)
    (refine dd4 @q2c @q6c @hb2 @b1 ?_)
    refine ⟨?_,⟨Nat.le_trans hs2.next hnc,fun _ _ h=>hs2.ob _ _ h⟩⟩
    rw [hroom,show l.inner.all (roomL k)=true from List.all_eq_true.2 fun p hp=>by
     obtain ⟨j,hj,rfl⟩:=List.getElem_of_mem hp
     exact hs j hj (by omega)]
    rfl
theorem great14_d (l:DLens) (hok:okL l):DPure Tryz.prog 28 [encL l] (.v (.bool (greatL l))):=by
 refine dpure_of_dwp mixed Tryz.func28 rfl (fun _ _=>by kernel_rfl) (rs:=[.tmp 2]) rfl (by kernel_rfl) trivial (fun S hS=>?_)
 (refine dd0 ?_)
 refine DCalls.of_pure (room14_d 8 (by omega) l hok) ?_
 (refine dd0 ?_)
 refine pendL ?_
 rfl
end
theorem cells_sCs (s:DSch):(encS s).cells=sCs s:=by rw [encS_eq];rfl
theorem cells_vCs (v:DVal):(encV v).cells=vCs v:=by rw [encV_eq];rfl
theorem smallS {s:DSch} (h:greatS s=false):s.weight≤300∧FineS 12 s:=by
 have h1:0≤roomS 12 s 300:=by have:=of_decide_eq_false h;omega
 have h2:=room_spec 12 s 300 h1
 exact ⟨by omega,h2.2⟩
theorem smallV {v:DVal} (h:greatV v=false):v.weight≤300∧FineV 12 v:=by
 have h1:0≤roomV 12 v 300:=by have:=of_decide_eq_false h;omega
 have h2:=roomV_spec 12 v 300 h1
 exact ⟨by omega,h2.2⟩
structure RoomL (k:Nat) (l:DLens):Prop where
 inner:l.inner.length≤2
 pairs:l.pairs.length≤20
 a:l.a.length≤100
 b:l.b.length≤100
 typ:greatS l.typ=false
 base:greatV l.base=false
 back:greatV l.back=false
 prs:∀ p∈l.pairs,greatV p.1=false∧greatV p.2=false
 inn:∀ x∈l.inner,roomL k x=true
theorem roomL_of {k:Nat} {l:DLens} (h:roomL (k+1) l=true):RoomL k l:=by
 rw [roomL] at h
 simp only [Bool.and_eq_true,decide_eq_true_eq,Bool.not_eq_true',List.all_eq_true] at h
 obtain ⟨⟨⟨⟨⟨⟨⟨⟨h1,h2⟩,h3⟩,h4⟩,h5⟩,h6⟩,h7⟩,h8⟩,h9⟩:=h
 exact ⟨h1,h2,h3,h4,h5,h6,h7,h8,h9⟩
theorem dapp_rowG {P:Program} {S:St} {t e ty:TypeId} {own own2:Own} {es:List D} {o:D} {K:D→St→Prop} (he:elT P t=some e) (hz:zeroT P e=true) (hy:bytesOf P e≤1000) (h:own=.full∧es=[]∨∃ g,own=.row g∧S.ob g=some (.row e es.length)) (hl:es.length≤1000000) (hw:∀ d∈es,d.width=szOf P e) (ho:o.width=szOf P e)
  (k:K (.sl (.row S.next) (es++[o])) (S.grow own e (es.length+1))):dapp P S t t ty (.sl own es) (.sl own2 [o]) K:=by
 refine dapp_row ?_
 simp only [dappend,he,hz,true_and,Option.isSome_some,List.length_cons,List.length_nil]
 refine ⟨hw,fun d hd=>by obtain rfl:=List.mem_singleton.1 hd;exact ho,?_,by omega,?_,k⟩
 ·rcases h with ⟨rfl,rfl⟩ | ⟨g,rfl,h⟩
  ·trivial
  ·exact h
 ·exact Nat.le_trans (Nat.mul_le_mul_left _ hy) (by omega)
theorem elPr:elT Tryz.prog 44=some 111:=by kernel_rfl
theorem szPr:szOf Tryz.prog 111=12:=by kernel_rfl
theorem byPr:bytesOf Tryz.prog 111≤1000:=by decide +kernel
theorem zePr:zeroT Tryz.prog 111=true:=by kernel_rfl
theorem elLn:elT Tryz.prog 45=some 47:=by kernel_rfl
theorem szLn:szOf Tryz.prog 47=20:=by kernel_rfl
theorem byLn:bytesOf Tryz.prog 47≤1000:=by decide +kernel
theorem zeLn:zeroT Tryz.prog 47=true:=by kernel_rfl
def lCs (l:DLens) (ps is:D):List D:=[.v (.int .i64 l.kind),D.v (sv l.a),D.v (sv l.b),.v (.int .i64 l.typ.kind),.sl .no (l.typ.words.map strD),.sl .no (l.typ.parts.map encS),
  .v (.int .i64 l.base.kind),.v (.int .i64 l.base.n),D.v (sv l.base.s),.sl .no (l.base.names.map strD),.sl .no (l.base.ids.map u64D),.sl .no (l.base.parts.map encV),
  .v (.int .i64 l.back.kind),.v (.int .i64 l.back.n),D.v (sv l.back.s),.sl .no (l.back.names.map strD),.sl .no (l.back.ids.map u64D),.sl .no (l.back.parts.map encV),ps,is]
theorem encL_lCs (l:DLens):encL l=.agg (lCs l (.sl .no (l.pairs.map encPr)) (.sl .no (l.inner.map encL))):=encL_eq l
theorem lCs_len (l:DLens) (x y:D):(lCs l x y).length=20:=rfl
theorem lCs_get (l:DLens) (x y:D):(lCs l x y).getD 18 undefD=x∧(lCs l x y).getD 19 undefD=y:=⟨rfl,rfl⟩
theorem encPr_okw (p:DVal × DVal):(encPr p).width=12:=rfl
theorem lCs_take (l:DLens) (x y:D):(lCs l x y).take 20=lCs l x y:=rfl
theorem frz_lCs (l:DLens) (o1 o2:Own):(D.agg (lCs l (.sl o1 (l.pairs.map encPr)) (.sl o2 (l.inner.map encL)))).frz=encL l:=by
 have h:=frz_encL l
 rw [encL_lCs] at h ⊢
 simp only [lCs,D.frz,frzL,frz_mapPr,frz_mapL] at h ⊢
 exact h
theorem lCs_set18 (l:DLens) (x y z:D):(lCs l x y).take 18++[z]++(lCs l x y).drop 19=lCs l z y:=rfl
theorem lCs_set19 (l:DLens) (x y z:D):(lCs l x y).take 19++[z]++(lCs l x y).drop 20=lCs l x z:=rfl
section
set_option maxRecDepth 200000
set_option maxHeartbeats 8000000
theorem copyL_d (k:Nat):∀ l,roomL k l=true→okL l→DPure Tryz.prog 43 [encL l] (encL l):=by
 induction k with
 | zero=>intro l h;cases h
 | succ k ih =>
  intro l hroom hok
  have hr:=roomL_of hroom
  have ho:=(okL_eq l).1 hok
  refine dpure_of_dwp mixed Tryz.func43 rfl (fun _ _=>by kernel_rfl) (rs:=[.cell 2 47]) rfl (by kernel_rfl) (closed_encL l) (fun S hS=>?_)
  (refine dd1 (encL_eq l) ?_)
  refine ddraw_mk 10 (by kernel_rfl) ?_
  (refine dd0 ?_)
  rw [aggS_fold]
  refine dqgo_mk (schCopy_d l.typ ho.2.2.2.1 (by have:=(smallS hr.typ).1;omega)) ?_
  (refine dd0 ?_)
  rw [aggV_fold]
  refine dqgo_mk (copyV_d l.base.depth l.base (Nat.le_refl _) (by have:=(smallV hr.base).1;omega)) ?_
  (refine dd0 ?_)
  rw [aggV_fold]
  refine dqgo_mk (copyV_d l.back.depth l.back (Nat.le_refl _) (by have:=(smallV hr.back).1;omega)) ?_
  (refine dd4 @cells_sCs @cells_vCs @sCs.eq_1 @vCs.eq_1 ?_)
  generalize hX:St.set (St.set (St.set (St.add (St.add S _) _) _ _) _ _) _ _=S1
  have hs1:S.Sub S1:=by rw [← hX];exact (((((St.Sub.refl S).add hS _).add hS _).set hS (Nat.le_refl _) _).set hS (Nat.le_refl _) _).set hS (Nat.le_refl _) _
  have hW1:S1.WF:=by rw [← hX];exact wfA
  have hn1:S1.next=S.next+2:=by rw [← hX];rfl
  have hb1:S1.ob S.next=some (.box 47 (lCs l (.sl .no (l.pairs.map encPr)) (.sl .no (l.inner.map encL)))):=by rw [← hX];exact di1 @lCs.eq_1
  obtain ⟨cs2,hb2,hc2⟩:∃ cs2,S1.ob (S.next+1)=some (.box 47 cs2)∧cs2.length=20:=by rw [← hX];exact ⟨_,by exact di0,rfl⟩
  clear hX
  have hg18:=fun x y=>(lCs_get l x y).1
  have hg19:=fun x y=>(lCs_get l x y).2
  have hll:=fun x y=>lCs_len l x y
  refine dloop_up (fun t=>List.contains [3,5,24,25,26,27,28,29,30,31,32,33,34,35,36,37,38] t) (by kernel_rfl) hW1 l.pairs.length (fun i q T=>i≤l.pairs.length∧q 24=.v (.int .i64 ((i:Nat):Int))∧S1.Sub T∧∃ own,q 3=.sl own ((l.pairs.take i).map encPr)∧(own=.full∧i=0∨∃ g,own=.row g∧S1.next≤g∧T.ob g=some (.row 111 i)))
   ⟨Nat.zero_le _,by exact di0,St.Sub.refl _,.full,by exact di0,.inl ⟨rfl,rfl⟩⟩ ?_
  rintro i q T hT hg ⟨le,q24,hsT,own,q3,hrow⟩
  (have q1:=hg 1 rfl;have q2:=hg 2 rfl;have q22:=hg 22 rfl;have q23:=hg 23 rfl;simp (disch:=first | decide | omega | (simp only [nx];first | done | omega)) only [go_sem,hb1,hg18,hll] at q1 q2 q22 q23;clear hg)
  have hbT:=hsT.ob _ _ hb1
  have hbT2:=hsT.ob _ _ hb2
  have hnT:=hsT.next
  have hpl:=hr.pairs
  by_cases hlt:i<l.pairs.length
  ·have b1:decide ((i:Int)<(l.pairs.length:Int))=true:=decide_eq_true (by omega)
   have w1:IntKind.i64.wrap ((i:Int)+1)=((i+1:Nat):Int):=IntWalk.i64_in _ ⟨by omega,by omega⟩
   have hxp:=getD_map encPr l.pairs i hlt
   have hpk:=hr.prs _ (List.getElem_mem hlt)
   have hx1:=smallV hpk.1
   have hx2:=smallV hpk.2
   (refine dd6 @q22 @q23 @q24 @b1 @hxp @hlt ?_)
   generalize hX:St.set (St.add T _) _ _=T1
   have hsT1:T.Sub T1:=by rw [← hX];exact ((St.Sub.refl T).add hT _).set hT (Nat.le_refl _) _
   have hT1:T1.WF:=by rw [← hX];exact wfA
   have hnT1:T1.next=T.next+1:=by rw [← hX];rfl
   have hbp:T1.ob T.next=some (.box 111 (vCs l.pairs[i].1++vCs l.pairs[i].2)):=by rw [← hX];exact di5 @encPr_eq @vCs.eq_1 @List.cons_append.{0} @List.nil_append.{0} @strD.eq_1
   clear hX
   refine ddraw_any (fun S'=>S'.ob T.next=some (.box 111 (vCs l.pairs[i].1++vCs l.pairs[i].2))) 11 (by exact di1 @hbp) (by kernel_rfl) ?_
   (have F:=pk5 @q3 @vCs.eq_1 @List.cons_append.{0} @List.nil_append.{0} @aggV_fold;refine stq F 0 ?_;refine stq F 1 ?_;refine stq F 2 ?_;clear F)
   (refine stk 3 (v:=?v4) (fun S' hz=>dquietR_of ?h4) ?k4;(case h4=>((refine dd1 @hz ?_);refine dqgo_mk (copyV_d _ _ (Nat.le_refl _) (by omega)) ?_;exact rfl)))
   (have F:=pk5 @q3 @vCs.eq_1 @List.cons_append.{0} @List.nil_append.{0} @aggV_fold;refine stq F 4 ?_;refine stq F 5 ?_;clear F)
   (refine stk 6 (v:=?v7) (fun S' hz=>dquietR_of ?h7) ?k7;(case h7=>((refine dd1 @hz ?_);refine dqgo_mk (copyV_d _ _ (Nat.le_refl _) (by omega)) ?_;exact rfl)))
   (refine s_take 7 rfl (by kernel_rfl) (by kernel_rfl) (v:=encPr l.pairs[i]) (fun S' hz=>dquietR_of (by (simp (disch:=first | decide | omega | (simp only [nx];first | done | omega)) only [go_sem,cells_vCs,vCs,List.cons_append,List.nil_append];(repeat with_reducible refine aI ?_));first | done | rfl | omega)) ?_)
   (have F:=pk2 @q3 @encPr_okw;refine stq F 8 ?_;clear F)
   (refine s_one 9 ?_;(refine dd0 ?_))
   have hti:((l.pairs.take i).map encPr).length=i:=by rw [List.length_map,List.length_take];omega
   have hrow1:own=.full∧(l.pairs.take i).map encPr=[]∨∃ g,own=.row g∧T1.ob g=some (.row 111 ((l.pairs.take i).map encPr).length):=by
    rw [hti]
    rcases hrow with ⟨e1,e2⟩ | ⟨g,e1,e2,e3⟩
    ·exact .inl ⟨e1,by rw [e2];rfl⟩
    ·exact .inr ⟨g,e1,hsT1.ob _ _ e3⟩
   refine dapp_rowG elPr zePr byPr hrow1 (by rw [hti];omega) (fun d hd=>by obtain ⟨x,_,rfl⟩:=List.mem_map.1 hd;rw [szPr];rfl) (by rw [szPr];rfl) ?_
   rw [hti]
   have hown:∀ g,own=.row g→S1.next≤g∧T1.ob g=some (.row 111 i):=fun g e=>by
    rcases hrow with ⟨e1,_⟩ | ⟨g',e1,e2,e3⟩
    ·rw [e1] at e;cases e
    ·rw [e1] at e;injection e with e;subst e;exact ⟨e2,hsT1.ob _ _ e3⟩
   have z1:(T1.grow own 111 (i+1)).ob T.next=some (.box 111 (vCs l.pairs[i].1++vCs l.pairs[i].2)):=growR_keep hT1 hbp fun g e e2=>by
    have:=(hown g e).2
    rw [← e2,hbp] at this
    cases this
   refine ⟨z1,?_⟩
   (have F:=@q3;refine stq F 10 ?_;clear F)
   (refine s_done (by kernel_rfl) ?_;(refine dd1 @z1 ?_))
   have hsG:S1.Sub (T1.grow own 111 (i+1)):=⟨by rw [grow_next];have:=hsT1.next;omega,fun j' o' e=>growR_keep hT1 (hsT1.ob _ _ (hsT.ob _ _ e)) fun g eg ej=>by
    have:=(hown g eg).1
    have:=hW1.lt e
    omega⟩
   have hnew:(T1.grow own 111 (i+1)).ob T1.next=some (.row 111 (i+1)):=growR_new
   (refine dd2 @q24 @w1 ?_)
   refine ⟨by omega,_,fun _ _ h=>h,by omega,by exact di1 @w1,hsG,.row T1.next,?_,.inr ⟨T1.next,rfl,by have:=hsT1.next;omega,hnew⟩⟩
   rw [List.take_succ_eq_append_getElem hlt,List.map_append]
   rfl
  ·have b1:decide ((i:Int)<(l.pairs.length:Int))=false:=decide_eq_false (by omega)
   (refine dd9 @q1 @q3 @q22 @q23 @q24 @b1 @hbT @hg19 @hll ?_)
   have hie:i=l.pairs.length:=by omega
   rw [hie,List.take_length] at q3
   clear hrow hlt b1
   have hil:=hr.inner
   have hnS:=hn1
   refine dloop_up (fun t=>List.contains [6,8,42,43,44,45,46,47,48,49,50,51] t) (by kernel_rfl) hT l.inner.length (fun ic qc U=>ic≤l.inner.length∧qc 42=.v (.int .i64 ((ic:Nat):Int))∧S1.Sub U∧T.next≤U.next∧∃ own2,qc 6=.sl own2 ((l.inner.take ic).map encL)∧(own2=.full∧ic=0∨∃ g,own2=.row g∧T.next≤g∧U.ob g=some (.row 47 ic)))
    ⟨Nat.zero_le _,by exact di0,hsT,Nat.le_refl _,.full,by exact di0,.inl ⟨rfl,rfl⟩⟩ ?_
   rintro ic qc U hU hgc ⟨lec,q42,hsU,hTU,own2,q6,hrow2⟩
   (have q1c:=hgc 1 rfl;have q2c:=hgc 2 rfl;have q3c:=hgc 3 rfl;have q40c:=hgc 40 rfl;have q41c:=hgc 41 rfl;simp (disch:=first | decide | omega | (simp only [nx];first | done | omega)) only [go_sem,hbT,hg19,hll,q1,q2,q3] at q1c q2c q3c q40c q41c;clear hgc)
   have hbU:=hsU.ob _ _ hb1
   have hbU2:=hsU.ob _ _ hb2
   have hnU:=hsU.next
   by_cases hlt:ic<l.inner.length
   ·have b1:decide ((ic:Int)<(l.inner.length:Int))=true:=decide_eq_true (by omega)
    have w1:IntKind.i64.wrap ((ic:Int)+1)=((ic+1:Nat):Int):=IntWalk.i64_in _ ⟨by omega,by omega⟩
    have hxp:=getD_map encL l.inner ic hlt
    (refine dd7 @q40c @q41c @q42 @q6 @b1 @hxp @hlt ?_)
    refine DCalls.of_pure (ih _ (hr.inn _ (List.getElem_mem hlt)) (ho.2.2.2.2.2.2.2.2.2 _ (List.getElem_mem hlt))) ?_
    (refine dd4 @q40c @q41c @q42 @q6 ?_)
    generalize hX:St.set (St.add U _) _ _=U1
    have hsU1:U.Sub U1:=by rw [← hX];exact ((St.Sub.refl U).add hU _).set hU (Nat.le_refl _) _
    have hU1:U1.WF:=by rw [← hX];exact wfA
    clear hX
    have hti:((l.inner.take ic).map encL).length=ic:=by rw [List.length_map,List.length_take];omega
    have hrow1:own2=.full∧(l.inner.take ic).map encL=[]∨∃ g,own2=.row g∧U1.ob g=some (.row 47 ((l.inner.take ic).map encL).length):=by
     rw [hti]
     rcases hrow2 with ⟨e1,e2⟩ | ⟨g,e1,e2,e3⟩
     ·exact .inl ⟨e1,by rw [e2];rfl⟩
     ·exact .inr ⟨g,e1,hsU1.ob _ _ e3⟩
    refine dapp_rowG elLn zeLn byLn hrow1 (by rw [hti];omega) (fun d hd=>by obtain ⟨x,_,rfl⟩:=List.mem_map.1 hd;rw [szLn];exact width_encL x) (by rw [szLn];exact width_encL _) ?_
    rw [hti]
    have hown:∀ g,own2=.row g→T.next≤g:=fun g e=>by
     rcases hrow2 with ⟨e1,_⟩ | ⟨g',e1,e2,e3⟩
     ·rw [e1] at e;cases e
     ·rw [e1] at e;injection e with e;subst e;exact e2
    have hsG:S1.Sub (U1.grow own2 47 (ic+1)):=⟨by rw [grow_next];have:=hsU1.next;omega,fun j' o' e=>growR_keep hU1 (hsU1.ob _ _ (hsU.ob _ _ e)) fun g eg ej=>by
     have:=hown g eg
     have:=hW1.lt e
     have:=hsT.next
     omega⟩
    have hnew:(U1.grow own2 47 (ic+1)).ob U1.next=some (.row 47 (ic+1)):=growR_new
    have hnU1:=hsU1.next
    (refine dd5 @q40c @q41c @q42 @q6 @w1 ?_)
    refine ⟨by omega,_,fun _ _ h=>h,by omega,by exact di1 @w1,hsG,?_,.row U1.next,?_,.inr ⟨U1.next,rfl,by omega,hnew⟩⟩
    ·show T.next≤(U1.grow own2 47 (ic+1)).next
     rw [grow_next];omega
    ·simp (disch:=first | decide | omega | (simp only [nx];first | done | omega)) only [go_sem]
     rw [List.take_succ_eq_append_getElem hlt,List.map_append]
     rfl
   ·have b1:decide ((ic:Int)<(l.inner.length:Int))=false:=decide_eq_false (by omega)
    have hie2:ic=l.inner.length:=by omega
    rw [hie2,List.take_length] at q6
    have hs18:=lCs_set18 l
    have hs19:=lCs_set19 l
    have htk:=lCs_take l
    have hdr:cs2.drop 20=[]:=List.drop_of_length_le (by omega)
    (simp (disch:=first | decide | omega | (simp only [nx];first | done | omega)) only [go_sem,q40c,q41c,q42,q6,b1,q1c,q2c,q3c,hbU,hbU2,hs18,hs19,hll,hc2,htk,hdr,List.append_nil];(repeat with_reducible refine aI ?_))
    refine ⟨?_,((hs1.trans hsU).set hS (Nat.le_refl _) _ |>.set hS (Nat.le_refl _) _).set hS (Nat.le_succ _) _⟩
    exact (frz_lCs l _ _).trans (encL_eq l)
end
theorem dcalls_argfz {P:Program} {g:FuncId} {args:List D} {S:St} {K:D→St→Prop} (h:DCalls P g (frzL args) S K):DCalls P g args S K:=fun base η w vs hM hr=>h base η w vs hM hr.frz
def uOk (k:Int):Bool:=decide (1≤k) && decide (k≤10)
def uB (k:Int):Bool:=k == 1 || k == 4 || k == 5
def uT (k:Int):Bool:=k == 2 || k == 3 || k == 8
def uK (k:Int):Bool:=k == 8
def uI (k:Int):Bool:=k == 9 || k == 10
def encU (a b c d:Bool):D:=.agg [.v (.bool a),.v (.bool b),.v (.bool c),.v (.bool d)]
def tupU (k:Int):D:=.tup [encU (uB k) (uT k) (uK k) (uI k),.v (.bool (uOk k))]
section
set_option maxRecDepth 200000
set_option maxHeartbeats 8000000
theorem uses_d (k:Int):DPure Tryz.prog 100 [.v (.int .i64 k)] (tupU k):=by
 refine dpure_of_dwp mixed Tryz.func100 rfl (fun _ _=>by kernel_rfl) (rs:=[.cell 2 173,.tmp 3]) rfl (by kernel_rfl) (by simp [tupU,encU,D.closed,D.all,allL]) (fun S hS=>?_)
 by_cases h:uOk k=true
 ·have h1:1≤k∧k≤10:=by simpa [uOk] using h
  obtain rfl | rfl | rfl | rfl | rfl | rfl | rfl | rfl | rfl | rfl:k=1∨k=2∨k=3∨k=4∨k=5∨k=6∨k=7∨k=8∨k=9∨k=10:=by omega
  all_goals
   (simp (disch:=first | decide | omega | (simp only [nx];first | done | omega)) only [go_sem,Int.reduceBEq];(repeat with_reducible refine aI ?_))
   refine pendL ?_
   rfl
 ·have h1:k<1∨10<k:=by
   rcases Int.lt_or_le k 1 with h2 | h2
   ·exact .inl h2
   ·rcases Int.lt_or_le 10 k with h3 | h3
    ·exact .inr h3
    ·exact absurd (by simp [uOk,h2,h3]) h
  have b (j:Int) (h:1≤j∧j≤10):(k == j)=false:=by rw [beq_eq_false_iff_ne];omega
  have b1:=b 1 (by omega)
  have b2:=b 2 (by omega)
  have b3:=b 3 (by omega)
  have b4:=b 4 (by omega)
  have b5:=b 5 (by omega)
  have b6:=b 6 (by omega)
  have b7:=b 7 (by omega)
  have b8:=b 8 (by omega)
  have b9:=b 9 (by omega)
  have b10:=b 10 (by omega)
  (refine dd10 @b1 @b2 @b3 @b4 @b5 @b6 @b7 @b8 @b9 @b10 ?_)
  refine pendL ?_
  rw [tupU,Bool.eq_false_iff.2 h]
  simp only [uB,uT,uK,uI,b1,b2,b3,b4,b5,b8,b9,b10]
  rfl
def scalarV (v:DVal):Bool:=rightV 5 v && decide (v.kind≤4)
theorem scalarV_d (v:DVal) (hok:okV v):DPure Tryz.prog 137 [encV v] (.v (.bool (scalarV v))):=by
 refine dpure_of_dwp mixed Tryz.func137 rfl (fun _ _=>by kernel_rfl) (rs:=[.tmp 2]) rfl (by kernel_rfl) trivial (fun S hS=>?_)
 (refine dd0 ?_)
 refine DCalls.of_pure (valRight_d v hok) ?_
 cases h:rightV 5 v with
 | false =>
  (refine dd0 ?_)
  refine pendL ?_
  rw [scalarV,h];rfl
 | true =>
  (refine dd1 (encV_eq v) ?_)
  refine pendL ?_
  rw [scalarV,h];rfl
def scaS (s:DSch):Bool:=decide (1≤s.kind) && decide (s.kind≤4)
theorem scalarS_d (s:DSch):DPure Tryz.prog 109 [encS s] (.v (.bool (scaS s))):=by
 refine dpure_of_dwp mixed Tryz.func109 rfl (fun _ _=>by kernel_rfl) (rs:=[.tmp 2]) rfl (by kernel_rfl) trivial (fun S hS=>?_)
 cases h:decide (1≤s.kind) with
 | false =>
  have b1:decide (s.kind ≥ 1)=false:=h
  (refine dd2 (encS_eq s) @b1 ?_)
  refine pendL ?_
  rw [scaS,h];rfl
 | true =>
  have b1:decide (s.kind ≥ 1)=true:=h
  (refine dd2 (encS_eq s) @b1 ?_)
  refine pendL ?_
  rw [scaS,h];rfl
theorem zeroS_ok:okS zeroS:=(okS_eq zeroS).2 ⟨(by simp [zeroS,DSch.kind,I64];decide),by simp [zeroS,DSch.words],by simp [zeroS,DSch.words],by simp [zeroS,DSch.parts],by simp [zeroS,DSch.parts]⟩
theorem schSame_d (a b:DSch) (ha:okS a) (hb:okS b):DPure Tryz.prog 108 [encS a,encS b] (.v (.bool (eqB a b))) :=
 dpure_of_gives (fun _ _=>by kernel_rfl) fun w η X vs hr=>by
  simp only [RepL] at hr
  obtain ⟨x,xs,rfl,h1,y,ys,rfl,h2,rfl⟩:=hr
  obtain ⟨cs,rfl,hv⟩:=sch_of_rep a.depth a (Nat.le_refl _) ha h1
  obtain ⟨ds,rfl,hv2⟩:=sch_of_rep b.depth b (Nat.le_refl _) hb h2
  exact schSame_calls a.depth a b cs ds w (Nat.le_refl _) hv hv2
def zeroV0:DVal:=.mk 0 0 [] [] [] []
theorem schSameZ_d (a:DSch) (ha:okS a):DPure Tryz.prog 108 [encS a,.agg [.v (.int .i64 0),.sl .full [],.sl .full []]] (.v (.bool (eqB a zeroS))):=fun S =>
 dcalls_argfz (by
  have h:=schSame_d a zeroS ha zeroS_ok S
  rw [encS_eq zeroS] at h
  simp only [frzL,D.frz,frz_encS]
  exact h)
theorem valSameZ_d (a:DVal) (hw:a.weight≤1000000):DPure Tryz.prog 136 [encV a,.agg [.v (.int .i64 0),.v (.int .i64 0),.v (sv []),.sl .full [],.sl .full [],.sl .full []]] (.v (.bool (eqB a zeroV0))):=fun S =>
 dcalls_argfz (by
  have h:=valSame_d a.depth a zeroV0 (Nat.le_refl _) hw (by decide) S
  rw [encV_eq zeroV0] at h
  simp only [frzL,D.frz,frz_encV]
  exact h)
noncomputable def zeroB (u1 u2 u3 u4:Bool) (l:DLens):Bool :=
 (u1 || (l.b == [])) && (u2 || (eqB l.typ zeroS && eqB l.base zeroV0)) && (u3 || (eqB l.back zeroV0 && decide (l.pairs.length=0))) && (u4 || decide (l.inner.length=0))
theorem way3 (u x:Bool):(u=true∧u=true)∨(u=false∧x=true)∨(u=false∧x=false):=by cases u <;> cases x <;> simp
theorem way4 (u x y:Bool):(u=true∧u=true∧u=true)∨(u=false∧x=true∧y=true)∨(u=false∧x=false∧x=false)∨(u=false∧x=true∧y=false):=by cases u <;> cases x <;> cases y <;> simp
theorem zero_d (u1 u2 u3 u4:Bool) (l:DLens) (hok:okL l) (hw:l.base.weight≤1000000) (hw2:l.back.weight≤1000000) :
  DPure Tryz.prog 102 [encL l,encU u1 u2 u3 u4] (.v (.bool (zeroB u1 u2 u3 u4 l))):=by
 have ho:=(okL_eq l).1 hok
 have c1:=schSameZ_d l.typ ho.2.2.2.1
 have c2:=valSameZ_d l.base hw
 have c3:=valSameZ_d l.back hw2
 have p1:(((l.pairs.length:Nat):Int) == 0)=decide (l.pairs.length=0):=by rw [Bool.eq_iff_iff,beq_iff_eq,decide_eq_true_eq];omega
 have p2:(((l.inner.length:Nat):Int) == 0)=decide (l.inner.length=0):=by rw [Bool.eq_iff_iff,beq_iff_eq,decide_eq_true_eq];omega
 refine dpure_of_dwp mixed Tryz.func102 rfl (fun _ _=>by kernel_rfl) (rs:=[.tmp 4]) rfl (by kernel_rfl) trivial (fun S hS=>?_)
 have fin:∀ {v w:Bool},v=w→(D.v (.bool v)).frz=.v (.bool w):=fun h=>by rw [h];rfl
 rcases way3 u1 (l.b == []) with ⟨h1,g1⟩ | ⟨h1,g1⟩ | ⟨h1,g1⟩
 all_goals ((refine dd4 (encL_eq l) @encU.eq_1 @h1 @g1 ?_))
 case inr.inr =>
  refine pendL ?_
  refine fin ?_
  simp [zeroB,h1,g1]
 all_goals (rcases way4 u2 (eqB l.typ zeroS) (eqB l.base zeroV0) with ⟨h2,g2,g2'⟩ | ⟨h2,g2,g2'⟩ | ⟨h2,g2,g2'⟩ | ⟨h2,g2,g2'⟩)
 all_goals ((refine dd1 @h2 ?_))
 all_goals (try (rw [aggS_fold];refine DCalls.of_pure c1 ?_;(refine dd1 @g2 ?_)))
 all_goals (try (rw [aggV_fold];refine DCalls.of_pure c2 ?_;(refine dd1 @g2' ?_)))
 all_goals (try (refine pendL ?_;refine fin ?_;simp [zeroB,h1,g1,h2,g2,g2']))
 all_goals (rcases way4 u3 (eqB l.back zeroV0) (decide (l.pairs.length=0)) with ⟨h3,g3,g3'⟩ | ⟨h3,g3,g3'⟩ | ⟨h3,g3,g3'⟩ | ⟨h3,g3,g3'⟩)
 all_goals ((refine dd1 @h3 ?_))
 all_goals (try (rw [aggV_fold];refine DCalls.of_pure c3 ?_;(refine dd3 @g3 @p1 @g3' ?_)))
 all_goals (try (refine pendL ?_;refine fin ?_;simp only [zeroB,h1,g1,h2,g2,g2',h3,g3,g3',Bool.true_or,Bool.false_or,Bool.and_true,Bool.true_and,Bool.false_and,Bool.and_false]))
 all_goals (rcases way3 u4 (decide (l.inner.length=0)) with ⟨h4,g4⟩ | ⟨h4,g4⟩ | ⟨h4,g4⟩)
 all_goals ((refine dd3 @h4 @p2 @g4 ?_))
 all_goals (refine pendL ?_;refine fin ?_;simp only [zeroB,h1,g1,h2,g2,g2',h3,g3,g3',h4,g4,Bool.true_or,Bool.false_or,Bool.and_true,Bool.true_and,Bool.false_and,Bool.and_false])
def typedB (l:DLens):Bool:=fitsTop l.base l.typ && (!(l.kind == 8) || scaS l.typ)
theorem typed_d (l:DLens) (hok:okL l):DPure Tryz.prog 103 [encL l] (.v (.bool (typedB l))):=by
 have ho:=(okL_eq l).1 hok
 refine dpure_of_dwp mixed Tryz.func103 rfl (fun _ _=>by kernel_rfl) (rs:=[.tmp 2]) rfl (by kernel_rfl) trivial (fun S hS=>?_)
 (refine dd1 (encL_eq l) ?_)
 rw [aggS_fold,aggV_fold]
 refine DCalls.of_pure (fitsTop_d l.base l.typ ho.2.2.2.2.1 ho.2.2.2.1) ?_
 cases h1:fitsTop l.base l.typ with
 | false =>
  (refine dd0 ?_)
  refine pendL ?_
  rw [typedB,h1];rfl
 | true =>
  cases h2:l.kind == 8 with
  | false =>
   have h3:(l.kind != 8)=true:=by rw [bne,h2];rfl
   (refine dd1 @h3 ?_)
   refine pendL ?_
   rw [typedB,h1,h2];rfl
  | true =>
   have h3:(l.kind != 8)=false:=by rw [bne,h2];rfl
   (refine dd1 @h3 ?_)
   rw [aggS_fold]
   refine DCalls.of_pure (scalarS_d l.typ) ?_
   (refine dd0 ?_)
   refine pendL ?_
   rw [typedB,h1,h2];rfl
end
def cur (l:List DMk) (q:Nat):List DMk:=packM (l.take q)++l.drop (packM (l.take q)).length
section
set_option maxRecDepth 200000
set_option maxHeartbeats 4000000
end
end Go.Proofs.YtogbklnkpjjkoaaGreatDoor
namespace Go.Proofs.YtogbklnkpjjkoaaGreatDoor
open Go.RowKit Go.Sort Go.Shelf
instance : Inhabited DMk:=⟨(0,⟨List.replicate 32 0,rfl⟩)⟩
section
set_option maxRecDepth 200000
set_option maxHeartbeats 4000000
variable {S : St}
end
end Go.Proofs.YtogbklnkpjjkoaaGreatDoor
namespace Go.Proofs.YtogbklnkpjjkoaaGreatDoor
open Go.RowKit
section
variable {P : Program} {f : Fm} {S : St} {K : D → St → Prop}
theorem inl_ret3 (t u v:Tmp) (S':St):DQ.inl P [.tmp t,.tmp u,.tmp v] K .ret f S'=K (.tup [f t,f u,f v]) S':=by simp [DQ.inl,dresL,dres,onVal,one]
attribute [go_sem] inl_ret3
end
section
set_option maxRecDepth 200000
set_option maxHeartbeats 4000000
end
theorem frz_encH (h:H32):(encH h).frz=encH h:=by simp [encH,D.frz,frzL_map,bD,Function.comp_def]
theorem closed_encH (h:H32):(encH h).closed:=by
 simp only [encH,D.closed,D.all]
 refine allL_iff.2 fun d hd=>?_
 obtain ⟨b,_,rfl⟩:=List.mem_map.1 hd
 simp [bD,D.all]
theorem closed_Hs (l:List H32):(D.sl .no (l.map encH)).closed:=by
 simp only [D.closed,D.all,Own.all,true_and]
 refine allL_iff.2 fun d hd=>?_
 obtain ⟨m,_,rfl⟩:=List.mem_map.1 hd
 exact closed_encH m
section
set_option maxRecDepth 200000
set_option maxHeartbeats 4000000
theorem hashes_d (own own2:Own) (a b:List H32) (ha:a.length≤1000000):DPure Tryz.prog 13 [.sl own (a.map encH),.sl own2 (b.map encH)] (.v (.bool (decide (a=b)))):=by
 refine dpure_of_dwp mixed Tryz.func13 rfl (fun _ _=>by kernel_rfl) (rs:=[.tmp 4]) rfl (by kernel_rfl) trivial (fun S hS=>?_)
 by_cases hl:a.length=b.length
 ·have b0:((a.length:Int) != (b.length:Int))=false:=by simp [hl]
  (simp (disch:=first | decide | omega | (simp only [nx];first | done | omega)) only [go_sem,b0];(repeat with_reducible refine aI ?_))
  (refine dloop_st (fun t=>List.contains [4,5,11,12,13,14,15,16,17,18,19,20,21,22,23,24,25] t) (by kernel_rfl) ?_ (a.length) (fun i f=>i≤a.length∧f 5=.v (.int .i64 (i:Nat))∧(∀ j,j<i→a[j]? = b[j]?)) ?_ ?_;(exact wfA);(exact ⟨(by omega),(by exact di0),(fun j h=>by omega)⟩);intro i g tn hn hT hg hI;obtain ⟨le,q5,hs⟩:=hI;have q0:=hg 0 rfl;have q1:=hg 1 rfl;simp (disch:=first | decide | omega | (simp only [nx];first | done | omega)) only [go_sem] at q0 q1;clear hg;have hn':=hn;try simp only [add_next,set_next,grow_next,leave_next,drop_next] at hn')
  by_cases hlt:i<a.length
  ·have b1:decide ((i:Int)<(a.length:Int))=true:=by simp;omega
   have w1:IntKind.i64.wrap ((i:Int)+1)=((i+1:Nat):Int):=IntWalk.i64_in _ ⟨by omega,by omega⟩
   have hlt':i<b.length:=by omega
   have la:=a[i].2
   have lb:=b[i].2
   (simp (disch:=first | decide | omega | (simp only [nx];first | done | omega)) only [go_sem,q0,q1,q5,b1];(repeat with_reducible refine aI ?_))
   refine ddraw_mk 9 (by kernel_rfl) ?_
   (simp (disch:=first | decide | omega | (simp only [nx];first | done | omega)) only [go_sem,q0,q1,q5,hlt,hlt',la,lb];(repeat with_reducible refine aI ?_))
   by_cases he:a[i]=b[i]
   ·have b2:(!decide (a[i]=b[i]))=false:=by simp [he]
    (simp (disch:=first | decide | omega | (simp only [nx];first | done | omega)) only [go_sem,b2,q5,w1];(repeat with_reducible refine aI ?_))
    (refine ⟨by omega,subA,?_⟩;refine ⟨by omega,?_,?_⟩;all_goals (try exact di1 @w1))
    intro j hj
    by_cases e:j=i
    ·subst e;rw [List.getElem?_eq_getElem hlt,List.getElem?_eq_getElem hlt',he]
    ·exact hs j (by omega)
   ·have b2:(!decide (a[i]=b[i]))=true:=by simp [he]
    (simp (disch:=first | decide | omega | (simp only [nx];first | done | omega)) only [go_sem,b2];(repeat with_reducible refine aI ?_))
    refine pendL ?_
    have:a ≠ b:=fun h=>he (by subst h;rfl)
    simp [D.frz,this]
  ·have b1:decide ((i:Int)<(a.length:Int))=false:=by simp;omega
   (simp (disch:=first | decide | omega | (simp only [nx];first | done | omega)) only [go_sem,q0,q5,b1];(repeat with_reducible refine aI ?_))
   refine pendL ?_
   have:a=b:=List.ext_getElem? fun j=>by
    by_cases hj:j<i
    ·exact hs j hj
    ·rw [List.getElem?_eq_none (by omega),List.getElem?_eq_none (by omega)]
   simp [D.frz,this]
 ·have b0:((a.length:Int) != (b.length:Int))=true:=by simp;omega
  (simp (disch:=first | decide | omega | (simp only [nx];first | done | omega)) only [go_sem,b0];(repeat with_reducible refine aI ?_))
  refine pendL ?_
  have:a ≠ b:=fun h=>hl (by rw [h])
  simp [D.frz,this]
end
def hk (h:H32):Int:=((valH h:Nat):Int)
theorem elHs:elT Tryz.prog 35=some 39:=by kernel_rfl
theorem szHs:szOf Tryz.prog 39=32:=by kernel_rfl
theorem byHs:bytesOf Tryz.prog 39=32:=by kernel_rfl
theorem zeHs:zeroT Tryz.prog 39=true:=by kernel_rfl
section
set_option maxRecDepth 200000
set_option maxHeartbeats 4000000
end
end Go.Proofs.YtogbklnkpjjkoaaGreatDoor
namespace Go.Proofs.YtogbklnkpjjkoaaGreatDoor
open Go.RowKit Go.Sort Go.Shelf
instance : Inhabited H32:=⟨⟨List.replicate 32 0,rfl⟩⟩
section
set_option maxRecDepth 200000
set_option maxHeartbeats 4000000
variable {S : St}
end
end Go.Proofs.YtogbklnkpjjkoaaGreatDoor
namespace Go.Proofs.YtogbklnkpjjkoaaGreatDoor
open Go.RowKit
def ixOf {α:Type} (p:α→Bool) (l:List α):Int:=if l.any p then ((l.findIdx p:Nat):Int) else -1
theorem ixOf_at {α:Type} {p:α→Bool} {l:List α} {i:Nat} (h:i<l.length) (hp:p l[i]=true) (hs:∀ j (h:j<l.length),j<i→p l[j]=false):ixOf p l=(i:Int):=by
 have h1:l.any p=true:=List.any_eq_true.2 ⟨l[i],List.getElem_mem _,hp⟩
 have h2:l.findIdx p=i:=by
  rw [List.findIdx_eq h]
  exact ⟨hp,fun j hj=>hs j (by omega) hj⟩
 rw [ixOf,if_pos h1,h2]
theorem ixOf_none {α:Type} {p:α→Bool} {l:List α} (hs:∀ j (h:j<l.length),p l[j]=false):ixOf p l=-1:=by
 have h1:l.any p=false:=List.any_eq_false.2 fun x hx=>by
  obtain ⟨i,hi,rfl⟩:=List.getElem_of_mem hx
  rw [hs i hi];simp
 rw [ixOf,if_neg (by rw [h1];simp)]
theorem ixOf_any {α:Type} (p:α→Bool) (l:List α):decide (ixOf p l ≥ 0)=l.any p:=by
 unfold ixOf
 cases l.any p <;> simp
section
set_option maxRecDepth 200000
set_option maxHeartbeats 4000000
end
section
set_option maxRecDepth 200000
set_option maxHeartbeats 8000000
theorem ixPr_at {S:St} {own:Own} {l:List (DVal × DVal)} {g:FuncId} {fs cs:List D} (p:(DVal × DVal)→Bool) (hl:l.length≤1000000) (hc:∀ x∈l,DSt Tryz.prog g (fs++[encPr x]++cs) S (.v (.bool (p x)))):DAt Tryz.prog 145 [.sl own (l.map encPr),.fn (.func g) fs cs] S (.v (.int .i64 (ixOf p l))):=by
 refine dat_of_dwpL mixed Tryz.func145 rfl (fun _ _=>by kernel_rfl) (rs:=[.tmp 4]) rfl (by kernel_rfl) (by trivial) (fun hS=>?_)
 (refine dd0 ?_)
 (refine dloop_st (fun t=>List.contains [4,5,8,9,10,11,12,13,14,15,16,17,18] t) (by kernel_rfl) ?_ (l.length) (fun i f=>i≤l.length∧f 8=.v (.int .i64 (i:Nat))∧(∀ j (h:j<l.length),j<i→p l[j]=false)) ?_ ?_;(exact wfA);(exact ⟨(by omega),(by exact di0),(fun j _ h=>absurd h (by omega))⟩);intro i g tn hn hT hg hI;obtain ⟨le,q8,hs⟩:=hI;have q0:=hg 0 rfl;have q1:=hg 1 rfl;have q7:=hg 7 rfl;simp (disch:=first | decide | omega | (simp only [nx];first | done | omega)) only [go_sem] at q0 q1 q7;clear hg;have hn':=hn;try simp only [add_next,set_next,grow_next,leave_next,drop_next] at hn')
 by_cases hlt:i<l.length
 ·have b1:decide ((i:Int)<(l.length:Int))=true:=decide_eq_true (by omega)
  have w1:IntKind.i64.wrap ((i:Int)+1)=((i+1:Nat):Int):=IntWalk.i64_in _ ⟨by omega,by omega⟩
  (simp (disch:=first | decide | omega | (simp only [nx];first | done | omega)) only [go_sem,q0,q1,q7,q8,b1,hlt];(repeat with_reducible refine aI ?_))
  refine go_at (hc l[i] (List.getElem_mem _) ⟨tn,S.ob⟩ hn (fun _ _ h=>h)) ?_
  cases hp:p l[i] with
  | false =>
   (simp (disch:=first | decide | omega | (simp only [nx];first | done | omega)) only [go_sem,q8,w1];(repeat with_reducible refine aI ?_))
   refine ⟨by omega,⟨hn,fun _ _ h=>h⟩,by omega,?_,fun j hj hji=>?_⟩
   ·exact di1 @w1
   ·by_cases e:j=i
    ·subst e;exact hp
    ·exact hs j hj (by omega)
  | true =>
   (refine dd0 ?_)
   refine ⟨?_,⟨hn,fun _ _ h=>h⟩⟩
   rw [ixOf_at hlt hp hs]
   rfl
 ·have b1:decide ((i:Int)<(l.length:Int))=false:=decide_eq_false (by omega)
  (simp (disch:=first | decide | omega | (simp only [nx];first | done | omega)) only [go_sem,q7,q8,b1];(repeat with_reducible refine aI ?_))
  refine ⟨?_,⟨hn,fun _ _ h=>h⟩⟩
  rw [ixOf_none fun j hj=>hs j hj (by omega)]
  rfl
theorem anyPr_at {S:St} {own:Own} {l:List (DVal × DVal)} {g:FuncId} {fs cs:List D} (p:DVal × DVal→Bool) (hl:l.length≤1000000) (hc:∀ x∈l,DSt Tryz.prog g (fs++[encPr x]++cs) S (.v (.bool (p x)))):DAt Tryz.prog 111 [.sl own (l.map encPr),.fn (.func g) fs cs] S (.v (.bool (l.any p))):=by
 refine dat_of_dwpL mixed Tryz.func111 rfl (fun _ _=>by kernel_rfl) (rs:=[.tmp 4]) rfl (by kernel_rfl) (by trivial) (fun hS=>?_)
 (refine dd0 ?_)
 refine go_at (ixPr_at p hl hc) ?_
 (simp (disch:=first | decide | omega | (simp only [nx];first | done | omega)) only [go_sem,ixOf_any];(repeat with_reducible refine aI ?_))
 refine pendL ?_
 rfl
def badP (l:DLens) (p:DVal × DVal):Bool := !scalarV p.1 || !fitsTop p.2 l.typ
theorem badP_at (l:DLens) (p:DVal × DVal) (k:Nat) (hl:okL l) (h1:okV p.1) (h2:okV p.2) {S:St} (hk:S.ob k=some (.box 47 (encL l).cells)) :
  DAt Tryz.prog 138 [encPr p,.loc k 0] S (.v (.bool (badP l p))):=by
 have ho:=(okL_eq l).1 hl
 refine dat_of_dwpL mixed Tryz.func138 rfl (fun _ _=>by kernel_rfl) (rs:=[.tmp 3]) rfl (by kernel_rfl) (by trivial) (fun hS=>?_)
 have hkn:=hS.lt hk
 rw [encL_eq] at hk
 (refine dd2 (encPr_eq p) @hk ?_)
 rw [aggV_fold]
 refine DCalls.of_pure (scalarV_d p.1 h1) ?_
 cases g1:scalarV p.1 with
 | false =>
  (refine dd0 ?_)
  refine pendL ?_
  rw [badP,g1];rfl
 | true =>
  (refine dd1 @hk ?_)
  rw [aggV_fold,aggS_fold]
  refine DCalls.of_pure (fitsTop_d p.2 l.typ h2 ho.2.2.2.1) ?_
  (refine dd0 ?_)
  refine pendL ?_
  rw [badP,g1];rfl
def pairedB (l:DLens):Bool:=scalarV l.back && decide (l.pairs.length≤8) && !(l.pairs.any (badP l))
theorem paired_d (l:DLens) (hok:okL l):DPure Tryz.prog 104 [encL l] (.v (.bool (pairedB l))):=by
 have ho:=(okL_eq l).1 hok
 refine dpure_of_dwp mixed Tryz.func104 rfl (fun _ _=>by kernel_rfl) (rs:=[.tmp 2]) rfl (by kernel_rfl) trivial (fun S hS=>?_)
 (refine dd1 (encL_eq l) ?_)
 rw [aggV_fold]
 refine DCalls.of_pure (scalarV_d l.back ho.2.2.2.2.2.1) ?_
 cases h1:scalarV l.back with
 | false =>
  (refine dd0 ?_)
  refine pendL ?_
  rw [pairedB,h1];rfl
 | true =>
  cases h2:decide ((l.pairs.length:Int)≤8) with
  | false =>
   have h2':decide (l.pairs.length≤8)=false:=by have:=of_decide_eq_false h2;exact decide_eq_false (by omega)
   (refine dd1 @h2 ?_)
   refine pendL ?_
   rw [pairedB,h1,h2'];rfl
  | true =>
   have h2':l.pairs.length≤8:=by have:=of_decide_eq_true h2;omega
   (refine dd1 @h2 ?_)
   refine go_at (anyPr_at (badP l) (by omega) fun x hx T hn hg=>?_) ?_
   ·exact badP_at l x S.next hok (ho.2.2.2.2.2.2.1 x hx).1 (ho.2.2.2.2.2.2.1 x hx).2 (hg _ _ (by exact di1 (encL_eq l)))
   (refine dd0 ?_)
   refine pendL ?_
   rw [pairedB,h1,decide_eq_true h2'];rfl
noncomputable def headL (l:DLens):Bool :=
 uOk l.kind && (nameB l.a && (zeroB (uB l.kind) (uT l.kind) (uK l.kind) (uI l.kind) l &&
  (if uB l.kind then nameB l.b && !(l.a == l.b) else if uK l.kind then typedB l && pairedB l else if uT l.kind then typedB l else true)))
noncomputable def rightL:Nat→DLens→Bool
 | 0,_=>false
 | n+1,l=>headL l && (!uI l.kind || (decide (l.inner.length=1) && l.inner.all (rightL n)))
structure SmL (l:DLens):Prop where
 ok:okL l
 base:l.base.weight≤1000000
 back:l.back.weight≤1000000
theorem smL_of {k:Nat} {l:DLens} (h:roomL k l=true) (hok:okL l):SmL l:=by
 cases k with
 | zero=>cases h
 | succ k =>
  have hr:=roomL_of h
  exact ⟨hok,by have:=(smallV hr.base).1;omega,by have:=(smallV hr.back).1;omega⟩
theorem roomL_in {k:Nat} {l x:DLens} (h:roomL (k+1) l=true) (hx:x∈l.inner):roomL k x=true:=(roomL_of h).inn x hx
theorem okL_in {l x:DLens} (h:okL l) (hx:x∈l.inner):okL x:=((okL_eq l).1 h).2.2.2.2.2.2.2.2.2 x hx
theorem right_dL (n:Nat) (hn:n≤100):∀ k l,roomL k l=true→okL l→DPure Tryz.prog 75 [encL l,.v (.int .i64 ((n:Nat):Int))] (.v (.bool (rightL n l))):=by
 induction n with
 | zero =>
  intro k l hroom hok
  refine dpure_of_dwp mixed Tryz.func75 rfl (fun _ _=>by kernel_rfl) (rs:=[.tmp 4]) rfl (by kernel_rfl) trivial (fun S hS=>?_)
  (refine dd1 (encL_eq l) ?_)
  refine DCalls.of_pure (uses_d l.kind) ?_
  cases h1:uOk l.kind with
  | false =>
   (refine dd3 @tupU.eq_1 @encU.eq_1 @h1 ?_)
   refine pendL ?_
   rfl
  | true =>
   (refine dd3 @tupU.eq_1 @encU.eq_1 @h1 ?_)
   refine pendL ?_
   rfl
 | succ n ih =>
  intro k l hroom hok
  have hs:=smL_of hroom hok
  have ho:=(okL_eq l).1 hok
  have e0:(((n+1:Nat):Int) == 0)=false:=by rw [beq_eq_false_iff_ne];omega
  have w1:IntKind.i64.wrap (((n+1:Nat):Int) - 1)=((n:Nat):Int):=by rw [show ((n+1:Nat):Int) - 1=(n:Int) by omega];exact IntWalk.i64_in _ ⟨by omega,by omega⟩
  have fin:∀ {v w:Bool},v=w→(D.v (.bool v)).frz=.v (.bool w):=fun h=>by rw [h];rfl
  refine dpure_of_dwp mixed Tryz.func75 rfl (fun _ _=>by kernel_rfl) (rs:=[.tmp 4]) rfl (by kernel_rfl) trivial (fun S hS=>?_)
  (refine dd1 (encL_eq l) ?_)
  refine DCalls.of_pure (uses_d l.kind) ?_
  cases h1:uOk l.kind with
  | false =>
   (refine dd3 @tupU.eq_1 @encU.eq_1 @h1 ?_)
   refine pendL ?_
   refine fin ?_
   simp only [rightL,headL,h1,Bool.false_and]
  | true =>
   (refine dd4 @tupU.eq_1 @encU.eq_1 @h1 @e0 ?_)
   refine DCalls.of_pure (name_d l.a ho.2.1) ?_
   cases h2:nameB l.a with
   | false =>
    (refine dd0 ?_)
    refine pendL ?_
    refine fin ?_
    simp only [rightL,headL,h1,h2,Bool.false_and,Bool.true_and]
   | true =>
    (refine dd0 ?_)
    rw [aggL_fold]
    refine DCalls.of_pure (zero_d (uB l.kind) (uT l.kind) (uK l.kind) (uI l.kind) l hok hs.base hs.back) ?_
    cases h3:zeroB (uB l.kind) (uT l.kind) (uK l.kind) (uI l.kind) l with
    | false =>
     (refine dd0 ?_)
     refine pendL ?_
     refine fin ?_
     simp only [rightL,headL,h1,h2,h3,Bool.false_and,Bool.true_and]
    | true =>
     have hR:∀ x,rightL (n+1) l=x↔((if uB l.kind then nameB l.b && !(l.a == l.b) else if uK l.kind then typedB l && pairedB l else if uT l.kind then typedB l else true) && (!uI l.kind || (decide (l.inner.length=1) && l.inner.all (rightL n))))=x:=fun x=>by
      simp only [rightL,headL,h1,h2,h3,Bool.true_and]
     cases h4:uB l.kind with
     | true =>
      have i4:uI l.kind=false:=by
       simp only [uB,uI,Bool.or_eq_true,beq_iff_eq,Bool.or_eq_false_iff,beq_eq_false_iff_ne] at h4 ⊢
       omega
      (refine dd1 @h4 ?_)
      refine DCalls.of_pure (name_d l.b ho.2.2.1) ?_
      cases h5:nameB l.b with
      | false =>
       (refine dd0 ?_)
       refine pendL ?_
       refine fin ?_
       rw [eq_comm,hR]
       simp [h4,h5]
      | true =>
       (refine dd0 ?_)
       refine pendL ?_
       refine fin ?_
       rw [eq_comm,hR]
       simp [h4,h5,i4,bne]
     | false =>
      cases h5:uK l.kind with
      | true =>
       have i4:uI l.kind=false:=by
        simp only [uK,uI,Bool.or_eq_true,beq_iff_eq,Bool.or_eq_false_iff,beq_eq_false_iff_ne] at h5 ⊢
        omega
       (refine dd2 @h4 @h5 ?_)
       rw [aggL_fold]
       refine DCalls.of_pure (typed_d l hok) ?_
       cases h6:typedB l with
       | false =>
        (refine dd0 ?_)
        refine pendL ?_
        refine fin ?_
        rw [eq_comm,hR]
        simp [h4,h5,h6]
       | true =>
        (refine dd0 ?_)
        rw [aggL_fold]
        refine DCalls.of_pure (paired_d l hok) ?_
        (refine dd0 ?_)
        refine pendL ?_
        refine fin ?_
        rw [eq_comm,hR]
        simp [h4,h5,h6,i4]
      | false =>
       cases h6:uT l.kind with
       | true =>
        have i4:uI l.kind=false:=by
         simp only [uT,uI,Bool.or_eq_true,beq_iff_eq,Bool.or_eq_false_iff,beq_eq_false_iff_ne] at h6 ⊢
         omega
        (refine dd3 @h4 @h5 @h6 ?_)
        rw [aggL_fold]
        refine DCalls.of_pure (typed_d l hok) ?_
        (refine dd0 ?_)
        refine pendL ?_
        refine fin ?_
        rw [eq_comm,hR]
        simp [h4,h5,h6,i4]
       | false =>
        cases h7:uI l.kind with
        | false =>
         (refine dd4 @h4 @h5 @h6 @h7 ?_)
         refine pendL ?_
         refine fin ?_
         rw [eq_comm,hR]
         simp [h4,h5,h6,h7]
        | true =>
         cases k with
         | zero=>cases hroom
         | succ k =>
         by_cases h8:l.inner.length=1
         ·obtain ⟨x,hx⟩:=List.length_eq_one_iff.1 h8
          have hxm:x∈l.inner:=by rw [hx];exact List.mem_singleton.2 rfl
          have b1:(((l.inner.length:Nat):Int) == 1)=true:=by rw [h8];rfl
          have b2:(((1:Nat):Int) == 1)=true:=rfl
          (refine dd12 @h4 @h5 @h6 @h7 @b1 @b2 @h8 @hx @List.map_cons.{0,0} @List.map_nil.{0,0} @List.length_singleton.{0} @w1 ?_)
          refine DCalls.of_pure (ih (by omega) k x (roomL_in hroom hxm) (okL_in hok hxm)) ?_
          (refine dd0 ?_)
          refine pendL ?_
          refine fin ?_
          rw [eq_comm,hR]
          simp [h4,h5,h6,h7,hx]
         ·have b1:(((l.inner.length:Nat):Int) == 1)=false:=by rw [beq_eq_false_iff_ne];omega
          (refine dd5 @h4 @h5 @h6 @h7 @b1 ?_)
          refine pendL ?_
          refine fin ?_
          rw [eq_comm,hR]
          simp [h4,h5,h6,h7,h8]
theorem lensRight_d (k:Nat) (l:DLens) (hr:roomL k l=true) (hok:okL l):DPure Tryz.prog 54 [encL l] (.v (.bool (rightL 5 l))):=by
 refine dpure_of_dwp mixed Tryz.func54 rfl (fun _ _=>by kernel_rfl) (rs:=[.tmp 2]) rfl (by kernel_rfl) trivial (fun S hS=>?_)
 (refine dd0 ?_)
 refine DCalls.of_pure (right_dL 5 (by omega) k l hr hok) ?_
 (refine dd0 ?_)
 refine pendL ?_
 rfl
end
theorem wtS_app (a b:List DSch):DSch.weights (a++b)=DSch.weights a+DSch.weights b:=by
 induction a with
 | nil=>simp [DSch.weights]
 | cons p l ih=>simp only [List.cons_append,DSch.weights,ih];omega
theorem wtS_td (l:List DSch) (k:Nat):DSch.weights (l.take k)+DSch.weights (l.drop k)=DSch.weights l:=by
 rw [← wtS_app,List.take_append_drop]
theorem wtS_drop (l:List DSch) (k:Nat):DSch.weights (l.drop k)≤DSch.weights l:=by have:=wtS_td l k;omega
theorem wtS_set (l:List DSch) (k:Nat) (p:DSch):DSch.weights (l.set k p)≤DSch.weights l+p.weight:=by
 induction l generalizing k with
 | nil=>simp [DSch.weights]
 | cons q l ih =>
  cases k with
  | zero=>simp only [List.set_cons_zero,DSch.weights];omega
  | succ k=>simp only [List.set_cons_succ,DSch.weights];have:=ih k;omega
def Wt (s:DSch) (n:Nat):Prop:=okS s∧s.weight≤n
theorem Wt.le {s:DSch} {n m:Nat} (h:Wt s n) (hl:n≤m):Wt s m:=⟨h.1,Nat.le_trans h.2 hl⟩
theorem len_of_weight {s:DSch}:s.words.length≤s.weight∧s.parts.length≤s.weight:=⟨(sPartsLen s).2,(sPartsLen s).1⟩
theorem Wt.of {k:Int} {ws:List Str} {ps:List DSch} {n:Nat} (hk:I64 k) (hw:∀ x∈ws,x.length≤maxLen) (hp:∀ p∈ps,okS p) (hn:1+ws.length+DSch.weights ps≤n) (hs:n≤1000000):Wt (.mk k ws ps) n:=by
 have h1:(DSch.mk k ws ps).weight≤n:=by rw [DSch.weight_eq];exact hn
 have h2:=len_of_weight (s:=.mk k ws ps)
 refine ⟨(okS_eq _).2 ⟨hk,hw,?_,?_,hp⟩,h1⟩
 ·exact Nat.le_trans h2.1 (by omega)
 ·exact Nat.le_trans h2.2 (by omega)
theorem withS_wt {v p:DSch} {x:Str} {n m:Nat} (hv:Wt v n) (hp:Wt p m) (hx:x.length≤maxLen) (hs:n+m+1≤1000000):Wt (withS v x p) (n+m+1):=by
 obtain ⟨o1,o2,o3,o4,o5⟩:=(okS_eq v).1 hv.1
 have hwe:=v.weight_eq
 have h1:=hv.2
 have h2:=hp.2
 unfold withS
 split
 ·exact hv.le (by omega)
 split
 ·refine Wt.of o1 o2 (fun q hq=>?_) (by have:=wtS_set v.parts (ixN v.words x) p;omega) hs
  rcases List.mem_or_eq_of_mem_set hq with h | h
  ·exact o5 _ h
  ·exact h ▸ hp.1
 ·refine Wt.of o1 (fun y hy=>?_) (fun q hq=>?_) ?_ hs
  ·rcases List.mem_append.1 hy with h | h
   ·rcases List.mem_append.1 h with h | h
    ·exact o2 _ (List.mem_of_mem_take h)
    ·exact List.mem_singleton.1 h ▸ hx
   ·exact o2 _ (List.mem_of_mem_drop h)
  ·rcases List.mem_append.1 hq with h | h
   ·rcases List.mem_append.1 h with h | h
    ·exact o5 _ (List.mem_of_mem_take h)
    ·exact List.mem_singleton.1 h ▸ hp.1
   ·exact o5 _ (List.mem_of_mem_drop h)
  ·have:=wtS_td v.parts (atN v.words x)
   simp only [wtS_app,DSch.weights,List.length_append,List.length_take,List.length_drop,List.length_singleton]
   omega
theorem withoutS_wt {v:DSch} {x:Str} {n:Nat} (hv:Wt v n) (hs:n≤1000000):Wt (withoutS v x) n:=by
 obtain ⟨o1,o2,o3,o4,o5⟩:=(okS_eq v).1 hv.1
 have hwe:=v.weight_eq
 have h1:=hv.2
 unfold withoutS
 split
 ·refine Wt.of o1 (fun y hy=>?_) (fun q hq=>?_) ?_ hs
  ·rcases List.mem_append.1 hy with h | h
   ·exact o2 _ (List.mem_of_mem_take h)
   ·exact o2 _ (List.mem_of_mem_drop h)
  ·rcases List.mem_append.1 hq with h | h
   ·exact o5 _ (List.mem_of_mem_take h)
   ·exact o5 _ (List.mem_of_mem_drop h)
  ·have h3:=wtS_td v.parts (ixN v.words x)
   have h4:DSch.weights (v.parts.drop (ixN v.words x+1))≤DSch.weights (v.parts.drop (ixN v.words x)):=by
    rw [← List.drop_drop]
    exact wtS_drop _ _
   simp only [wtS_app,List.length_append,List.length_take,List.length_drop]
   omega
 ·exact hv
theorem zeroS_wt (n:Nat) (h:1≤n):Wt zeroS n:=⟨zeroS_ok,h⟩
theorem field_wt {v:DSch} {n:Nat} (x:Str) (hv:Wt v n) (h1:1≤n):Wt ((fieldS v x).getD zeroS) n:=by
 unfold fieldS
 split
 ·rename_i h
  by_cases hl:ixN v.words x<v.parts.length
  ·rw [Option.getD_some,getD_at hl]
   have hm:=List.getElem_mem hl
   exact ⟨((okS_eq v).1 hv.1).2.2.2.2 _ hm,by have:=DSch.weight_part hm;have:=hv.2;omega⟩
  ·have:v.parts.getD (ixN v.words x) default=zeroS:=by simp [List.getD,hl];rfl
   rw [Option.getD_some,this]
   exact zeroS_wt n h1
 ·exact zeroS_wt n h1
noncomputable def besideS (l:DLens) (s a:DSch) (has:Bool):DSch × Bool :=
 if l.kind=1 then (withS (withoutS s l.a) l.b a,has && !(fieldS s l.b).isSome)
 else if l.kind=2 then (withS s l.a l.typ,!has)
 else if l.kind=3 then (withoutS s l.a,has && eqB a l.typ)
 else if l.kind=4 then (withS (withS s l.a (withoutS a l.b)) l.b ((fieldS a l.b).getD zeroS),(fieldS a l.b).isSome && !(fieldS s l.b).isSome)
 else (withS (withoutS s l.b) l.a (withS a l.b ((fieldS s l.b).getD zeroS)),has && (fieldS s l.b).isSome && (a.kind == 5) && !(fieldS a l.b).isSome)
theorem besideS_wt {l:DLens} {s a:DSch} {has:Bool} {n m:Nat} (hl:okL l) (ht:l.typ.weight≤300) (hs:Wt s n) (ha:Wt a m) (h1:1≤n) (h2:1≤m) (hb:n+n+m+m+400≤1000000):Wt (besideS l s a has).1 (n+n+m+m+400):=by
 have ho:=(okL_eq l).1 hl
 unfold besideS
 split
 ·exact (withS_wt (withoutS_wt hs (by omega)) ha ho.2.2.1 (by omega)).le (by omega)
 split
 ·exact (withS_wt hs (⟨ho.2.2.2.1,ht⟩:Wt l.typ 300) ho.2.1 (by omega)).le (by omega)
 split
 ·exact (withoutS_wt hs (by omega)).le (by omega)
 split
 ·exact (withS_wt (withS_wt hs (withoutS_wt ha (by omega)) ho.2.1 (by omega)) (field_wt l.b ha h2) ho.2.2.1 (by omega)).le (by omega)
 ·exact (withS_wt (withoutS_wt hs (by omega)) (withS_wt ha (field_wt l.b hs h1) ho.2.2.1 (by omega)) ho.2.1 (by omega)).le (by omega)
section
variable {P : Program} {f : Fm} {md : Region.Mode} {Zs : St → Prop}
theorem s_takeG {Q:Fm→St→Prop} (i:Nat) {l:List Oper} {dst:Option Tmp} {op:Op} {ty:TypeId} {pos:String} {aft:Array Edge} {j:Nat} {want:Bool} {og:Oper} {t:Tmp} {fuel:Nat} {L:Array Bool} {S:St} (hi:nth l i=some ⟨dst,op,ty,pos,aft,some (j,want)⟩) (hj:nth l j=some og) (ht:og.dst=some t) (hft:f t=.v (.bool want))
  (hr:(Region.ready md (List.toArray l) L).contains i=true) (hf:Region.free md (List.toArray l) L i=true) {v:D}
  (hq:∀ S,Zs S→dquietR P f S ty op v) (h:sAny P md (List.toArray l) Zs Q fuel (L.setIfInBounds i true) (put f dst v) S):sAny P md (List.toArray l) Zs Q (fuel+1) L f S :=
 have hi:(List.toArray l)[i]? = some ⟨dst,op,ty,pos,aft,some (j,want)⟩:=by rw [← hi,nth_eq];simp
 have hj':(List.toArray l)[j]? = some og:=by rw [← hj,nth_eq];simp
 have hg:gval (List.toArray l) f ⟨dst,op,ty,pos,aft,some (j,want)⟩=some true:=by
  simp only [gval,hj',Option.bind_some,ht,hft,beq_self_eq_true]
 sAny_first hi fuel L f S (Region.free_spec hi hf) (by simpa using hr) (.inl ⟨hg,hq⟩) h
theorem s_skipG {Q:Fm→St→Prop} (i:Nat) {l:List Oper} {dst:Option Tmp} {op:Op} {ty:TypeId} {pos:String} {aft:Array Edge} {j:Nat} {want:Bool} {og:Oper} {t:Tmp} {fuel:Nat} {L:Array Bool} {S:St} (hi:nth l i=some ⟨dst,op,ty,pos,aft,some (j,want)⟩) (hj:nth l j=some og) (ht:og.dst=some t) (hft:f t=.v (.bool !want)∨f t=undefD)
  (hr:(Region.ready md (List.toArray l) L).contains i=true) (hf:Region.free md (List.toArray l) L i=true)
  (h:sAny P md (List.toArray l) Zs Q fuel (L.setIfInBounds i true) (put f dst undefD) S):sAny P md (List.toArray l) Zs Q (fuel+1) L f S :=
 have hi:(List.toArray l)[i]? = some ⟨dst,op,ty,pos,aft,some (j,want)⟩:=by rw [← hi,nth_eq];simp
 have hj':(List.toArray l)[j]? = some og:=by rw [← hj,nth_eq];simp
 have hg:gval (List.toArray l) f ⟨dst,op,ty,pos,aft,some (j,want)⟩=some false:=by
  rcases hft with hft | hft
  ·simp only [gval,hj',Option.bind_some,ht,hft]
   cases want <;> rfl
  ·simp only [gval,hj',Option.bind_some,ht,hft,undefD]
 sAny_first hi fuel L f S (Region.free_spec hi hf) (by simpa using hr) (.inr ⟨hg,rfl⟩) h
end
section
set_option maxRecDepth 200000
set_option maxHeartbeats 8000000
theorem record_d (s:DSch) (x:Str) (hok:okS s) (hw:s.weight≤1000000):DPure Tryz.prog 76 [encS s,.v (sv x)] (.tup [.v (.bool (s.kind == 5)),.v (.bool (fieldS s x).isSome)]):=by
 refine dpure_of_dwp mixed Tryz.func76 rfl (fun _ _=>by kernel_rfl) (rs:=[.tmp 4,.tmp 5]) rfl (by kernel_rfl) (by simp [D.closed,D.all,allL]) (fun S hS=>?_)
 (refine dd0 ?_)
 refine DCalls.of_pure (fieldS_d s x hok hw) ?_
 (refine dd2 @tupS.eq_1 @encS_eq ?_)
 refine pendL ?_
 rfl
theorem tupB_cl (s:DSch) (b:Bool):(D.tup [encS s,.v (.bool b)]).closed:=by
 simp only [D.closed,D.all,allL,and_true];exact closed_encS _
def tupBs (p:DSch × Bool):D:=.tup [encS p.1,.v (.bool p.2)]
theorem tupBs_cl (p:DSch × Bool):(tupBs p).closed:=tupB_cl _ _
theorem beside_d (l:DLens) (s a:DSch) (has:Bool) (hl:okL l) (ht:l.typ.weight≤300) (hs:Wt s 45000) (ha:Wt a 45000) :
  DPure Tryz.prog 78 [encL l,encS s,encS a,.v (.bool has)] (tupBs (besideS l s a has)):=by
 have ho:=(okL_eq l).1 hl
 have oa:=ho.2.1
 have ob:=ho.2.2.1
 have ot:Wt l.typ 300:=⟨ho.2.2.2.1,ht⟩
 have fin:∀ {x:DSch} {b c:Bool} {r:DSch × Bool},r=(x,c)→b=c→(D.tup [encS x,.v (.bool b)]).frz=tupBs r:=fun h h2=>by rw [h,h2];simp only [D.frz,frzL,frz_encS,tupBs]
 refine dpure_of_dwp mixed Tryz.func78 rfl (fun _ _=>by kernel_rfl) (rs:=[.cell 8 25,.tmp 9]) rfl (by kernel_rfl) (tupBs_cl _) (fun S hS=>?_)
 by_cases k1:l.kind=1
 ·have b1:(l.kind == 1)=true:=by simp [k1]
  have hr:besideS l s a has=(withS (withoutS s l.a) l.b a,has && !(fieldS s l.b).isSome):=by rw [besideS,if_pos k1]
  (refine dd2 (encL_eq l) @b1 ?_)
  refine DCalls.of_pure (record_d s l.b hs.1 (by have:=hs.2;omega)) ?_
  (refine dd0 ?_)
  have hS1:=((((hS.add (.box 47 (encL l).cells)).add (.box 25 (encS s).cells)).add (.box 25 (encS a).cells)).add (.box 25 [.v (.int .i64 0),.sl .full [],.sl .full []]))
  refine ddraw_any (fun S'=>S'.ob S.next=some (.box 47 (encL l).cells)∧S'.ob (S.next+1)=some (.box 25 (encS s).cells)∧S'.ob (S.next+1+1)=some (.box 25 (encS a).cells)) 15 (by exact di1 (encL_eq l)) (by kernel_rfl) ?_
  (have F:=(encL_eq l);refine stq F 0 ?_;refine stq F 1 ?_;refine stq F 2 ?_;clear F)
  (refine stk 3 (v:=?v4) (fun S' hz=>dquietR_of ?h4) ?k4;(case h4=>((refine dd1 @hz ?_);refine dqgo_mk (withoutS_d s l.a hs.1 (by have:=hs.2;omega) oa) ?_;exact rfl)))
  (have F:=(encL_eq l);refine stq F 4 ?_;refine stq F 5 ?_;refine stq F 6 ?_;clear F)
  (refine stk 7 (v:=?v8) (fun S' hz=>dquietR_of ?h8) ?k8;(case h8=>((refine dd1 @hz ?_);refine dqgo_mk (withS_d (withoutS s l.a) a l.b (withoutS_wt hs (by omega)).1 ha.1 (by have:=(withoutS_wt (x:=l.a) hs (by omega)).2;omega) (by have:=ha.2;omega) ob) ?_;exact rfl)))
  (have F:=trivial;refine stq F 8 ?_;refine stq F 9 ?_;clear F)
  cases has with
  | false =>
   (refine s_skipG 10 rfl rfl rfl (by first | (left;exact di0;done) | (right;exact di0;done)) (by kernel_rfl) (by kernel_rfl) ?_;refine s_skipG 11 rfl rfl rfl (by first | (left;exact di0;done) | (right;exact di0;done)) (by kernel_rfl) (by kernel_rfl) ?_)
   (have F:=trivial;refine stq F 12 ?_;clear F)
   (refine s_one 13 ?_;(refine dd0 ?_))
   refine ⟨by rw [encL_eq];rfl,?_⟩
   (have F:=trivial;refine stq F 14 ?_;clear F)
   (refine s_done (by kernel_rfl) ?_;(refine dd0 ?_))
   refine pendL ?_
   exact fin hr rfl
  | true =>
   (refine s_takeG 10 rfl rfl rfl (by exact di0) (by kernel_rfl) (by kernel_rfl) (v:=?v13) (fun S' hz=>dquietR_of ?h13) ?k13;(case h13=>exact dx1 @hz);refine s_takeG 11 rfl rfl rfl (by exact di0) (by kernel_rfl) (by kernel_rfl) (v:=?v14) (fun S' hz=>dquietR_of ?h14) ?k14;(case h14=>exact dx1 @hz))
   (have F:=trivial;refine stq F 12 ?_;clear F)
   (refine s_one 13 ?_;(refine dd0 ?_))
   refine ⟨by rw [encL_eq];rfl,?_⟩
   (have F:=trivial;refine stq F 14 ?_;clear F)
   (refine s_done (by kernel_rfl) ?_;(refine dd0 ?_))
   refine pendL ?_
   exact fin hr rfl
 have b1:(l.kind == 1)=false:=by simp [k1]
 have hs2:=hs.2
 have ha2:=ha.2
 by_cases k2:l.kind=2
 ·have b2:(l.kind == 2)=true:=by simp [k2]
  have hr:besideS l s a has=(withS s l.a l.typ,!has):=by rw [besideS,if_neg k1,if_pos k2]
  (refine dd3 (encL_eq l) @b1 @b2 ?_)
  rw [aggS_fold]
  refine DCalls.of_pure (withS_d s l.typ l.a hs.1 ot.1 (by omega) (by omega) oa) ?_
  (refine dd0 ?_)
  refine pendL ?_
  exact fin hr rfl
 have b2:(l.kind == 2)=false:=by simp [k2]
 by_cases k3:l.kind=3
 ·have b3:(l.kind == 3)=true:=by simp [k3]
  have hr:besideS l s a has=(withoutS s l.a,has && eqB a l.typ):=by rw [besideS,if_neg k1,if_neg k2,if_pos k3]
  (refine dd4 (encL_eq l) @b1 @b2 @b3 ?_)
  refine DCalls.of_pure (withoutS_d s l.a hs.1 (by omega) oa) ?_
  cases has with
  | false =>
   (refine dd0 ?_)
   refine pendL ?_
   exact fin hr rfl
  | true =>
   (refine dd0 ?_)
   rw [aggS_fold]
   refine DCalls.of_pure (schSame_d a l.typ ha.1 ot.1) ?_
   (refine dd0 ?_)
   refine pendL ?_
   exact fin hr rfl
 have b3:(l.kind == 3)=false:=by simp [k3]
 by_cases k4:l.kind=4
 ·have b4:(l.kind == 4)=true:=by simp [k4]
  have hr:besideS l s a has=(withS (withS s l.a (withoutS a l.b)) l.b ((fieldS a l.b).getD zeroS),(fieldS a l.b).isSome && !(fieldS s l.b).isSome):=by rw [besideS,if_neg k1,if_neg k2,if_neg k3,if_pos k4]
  have hx:=field_wt l.b ha (by omega)
  have hy:=withoutS_wt (x:=l.b) ha (by omega)
  have hz4:=withS_wt hs hy oa (by omega)
  (refine dd5 (encL_eq l) @b1 @b2 @b3 @b4 ?_)
  refine DCalls.of_pure (fieldS_d a l.b ha.1 (by omega)) ?_
  (refine dd1 @tupS.eq_1 ?_)
  refine DCalls.of_pure (record_d s l.b hs.1 (by omega)) ?_
  (refine dd0 ?_)
  refine ddraw_any (fun S'=>S'.ob S.next=some (.box 47 (encL l).cells)∧S'.ob (S.next+1)=some (.box 25 (encS s).cells)∧S'.ob (S.next+1+1)=some (.box 25 (encS a).cells)∧S'.ob (S.next+1+1+1+1)=some (.box 25 (encS ((fieldS a l.b).getD zeroS)).cells)) 19 (by exact di1 (encL_eq l)) (by kernel_rfl) ?_
  (have F:=(encL_eq l);refine stq F 0 ?_;refine stq F 1 ?_;refine stq F 2 ?_;refine stq F 3 ?_;refine stq F 4 ?_;refine stq F 5 ?_;clear F)
  (refine stk 6 (v:=?v23) (fun S' hz=>dquietR_of ?h23) ?k23;(case h23=>((refine dd1 @hz ?_);refine dqgo_mk (withoutS_d a l.b ha.1 (by omega) ob) ?_;exact rfl)))
  (refine stk 7 (v:=?v24) (fun S' hz=>dquietR_of ?h24) ?k24;(case h24=>((refine dd1 @hz ?_);refine dqgo_mk (withS_d s (withoutS a l.b) l.a hs.1 hy.1 (by omega) (by have:=hy.2;omega) oa) ?_;exact rfl)))
  (have F:=(encL_eq l);refine stq F 8 ?_;refine stq F 9 ?_;refine stq F 10 ?_;clear F)
  (refine stk 11 (v:=?v28) (fun S' hz=>dquietR_of ?h28) ?k28;(case h28=>((refine dd1 @hz ?_);refine dqgo_mk (withS_d _ _ l.b hz4.1 hx.1 (by have:=hz4.2;omega) (by have:=hx.2;omega) ob) ?_;exact rfl)))
  (have F:=trivial;refine stq F 12 ?_;refine stq F 13 ?_;clear F)
  cases hf:(fieldS a l.b).isSome with
  | false =>
   (refine s_skipG 14 rfl rfl rfl (by first | (left;exact di1 @hf;done) | (right;exact di1 @hf;done)) (by kernel_rfl) (by kernel_rfl) ?_;refine s_skipG 15 rfl rfl rfl (by first | (left;exact di1 @hf;done) | (right;exact di1 @hf;done)) (by kernel_rfl) (by kernel_rfl) ?_)
   (have F:=@hf;refine stq F 16 ?_;clear F)
   (refine s_one 17 ?_;(refine dd0 ?_))
   refine ⟨by rw [encL_eq];rfl,?_⟩
   (have F:=trivial;refine stq F 18 ?_;clear F)
   (refine s_done (by kernel_rfl) ?_;(refine dd0 ?_))
   refine pendL ?_
   exact fin hr (by rw [hf];rfl)
  | true =>
   (refine s_takeG 14 rfl rfl rfl (by exact di1 @hf) (by kernel_rfl) (by kernel_rfl) (v:=?v33) (fun S' hz=>dquietR_of ?h33) ?k33;(case h33=>exact dx2 @hf @hz);refine s_takeG 15 rfl rfl rfl (by exact di1 @hf) (by kernel_rfl) (by kernel_rfl) (v:=?v34) (fun S' hz=>dquietR_of ?h34) ?k34;(case h34=>exact dx2 @hf @hz))
   (have F:=@hf;refine stq F 16 ?_;clear F)
   (refine s_one 17 ?_;(refine dd0 ?_))
   refine ⟨by rw [encL_eq];rfl,?_⟩
   (have F:=trivial;refine stq F 18 ?_;clear F)
   (refine s_done (by kernel_rfl) ?_;(refine dd0 ?_))
   refine pendL ?_
   exact fin hr (by rw [hf];rfl)
 have b4:(l.kind == 4)=false:=by simp [k4]
 have hr:besideS l s a has=(withS (withoutS s l.b) l.a (withS a l.b ((fieldS s l.b).getD zeroS)),has && (fieldS s l.b).isSome && (a.kind == 5) && !(fieldS a l.b).isSome):=by rw [besideS,if_neg k1,if_neg k2,if_neg k3,if_neg k4]
 have hx:=field_wt l.b hs (by omega)
 have hy:=withoutS_wt (x:=l.b) hs (by omega)
 have hz5:=withS_wt ha hx ob (by omega)
 (refine dd5 (encL_eq l) @b1 @b2 @b3 @b4 ?_)
 refine DCalls.of_pure (fieldS_d s l.b hs.1 (by omega)) ?_
 (refine dd1 @tupS.eq_1 ?_)
 refine DCalls.of_pure (record_d a l.b ha.1 (by omega)) ?_
 (refine dd0 ?_)
 refine ddraw_any (fun S'=>S'.ob S.next=some (.box 47 (encL l).cells)∧S'.ob (S.next+1)=some (.box 25 (encS s).cells)∧S'.ob (S.next+1+1)=some (.box 25 (encS a).cells)∧S'.ob (S.next+1+1+1+1)=some (.box 25 (encS ((fieldS s l.b).getD zeroS)).cells)) 25 (by exact di1 (encL_eq l)) (by kernel_rfl) ?_
 (have F:=(encL_eq l);refine stq F 0 ?_;refine stq F 1 ?_;refine stq F 2 ?_;clear F)
 (refine stk 3 (v:=?v40) (fun S' hz=>dquietR_of ?h40) ?k40;(case h40=>((refine dd1 @hz ?_);refine dqgo_mk (withoutS_d s l.b hs.1 (by omega) ob) ?_;exact rfl)))
 (have F:=(encL_eq l);refine stq F 4 ?_;refine stq F 5 ?_;refine stq F 6 ?_;refine stq F 7 ?_;refine stq F 8 ?_;refine stq F 9 ?_;clear F)
 (refine stk 10 (v:=?v47) (fun S' hz=>dquietR_of ?h47) ?k47;(case h47=>((refine dd1 @hz ?_);refine dqgo_mk (withS_d a _ l.b ha.1 hx.1 (by omega) (by have:=hx.2;omega) ob) ?_;exact rfl)))
 (refine stk 11 (v:=?v48) (fun S' hz=>dquietR_of ?h48) ?k48;(case h48=>((refine dd1 @hz ?_);refine dqgo_mk (withS_d _ _ l.a hy.1 hz5.1 (by have:=hy.2;omega) (by have:=hz5.2;omega) oa) ?_;exact rfl)))
 (have F:=trivial;refine stq F 12 ?_;refine stq F 13 ?_;clear F)
 cases has with
 | false =>
  (refine s_skipG 14 rfl rfl rfl (by first | (left;exact di0;done) | (right;exact di0;done)) (by kernel_rfl) (by kernel_rfl) ?_)
  (have F:=trivial;refine stq F 15 ?_;refine stq F 16 ?_;clear F)
  (refine s_skipG 17 rfl rfl rfl (by first | (left;exact di0;done) | (right;exact di0;done)) (by kernel_rfl) (by kernel_rfl) ?_)
  (have F:=trivial;refine stq F 18 ?_;refine stq F 19 ?_;clear F)
  (refine s_skipG 20 rfl rfl rfl (by first | (left;exact di0;done) | (right;exact di0;done)) (by kernel_rfl) (by kernel_rfl) ?_;refine s_skipG 21 rfl rfl rfl (by first | (left;exact di0;done) | (right;exact di0;done)) (by kernel_rfl) (by kernel_rfl) ?_)
  (have F:=trivial;refine stq F 22 ?_;clear F)
  (refine s_one 23 ?_;(refine dd0 ?_))
  refine ⟨by rw [encL_eq];rfl,?_⟩
  (have F:=trivial;refine stq F 24 ?_;clear F)
  (refine s_done (by kernel_rfl) ?_;(refine dd0 ?_))
  refine pendL ?_
  exact fin hr rfl
 | true =>
  (refine s_takeG 14 rfl rfl rfl (by exact di0) (by kernel_rfl) (by kernel_rfl) (v:=?v57) (fun S' hz=>dquietR_of ?h57) ?k57;(case h57=>exact dx1 @hz))
  (have F:=trivial;refine stq F 15 ?_;refine stq F 16 ?_;clear F)
  cases hf:(fieldS s l.b).isSome with
  | false =>
   (refine s_skipG 17 rfl rfl rfl (by first | (left;exact di1 @hf;done) | (right;exact di1 @hf;done)) (by kernel_rfl) (by kernel_rfl) ?_)
   (have F:=@hf;refine stq F 18 ?_;refine stq F 19 ?_;clear F)
   (refine s_skipG 20 rfl rfl rfl (by first | (left;exact di1 @hf;done) | (right;exact di1 @hf;done)) (by kernel_rfl) (by kernel_rfl) ?_;refine s_skipG 21 rfl rfl rfl (by first | (left;exact di1 @hf;done) | (right;exact di1 @hf;done)) (by kernel_rfl) (by kernel_rfl) ?_)
   (have F:=@hf;refine stq F 22 ?_;clear F)
   (refine s_one 23 ?_;(refine dd0 ?_))
   refine ⟨by rw [encL_eq];rfl,?_⟩
   (have F:=trivial;refine stq F 24 ?_;clear F)
   (refine s_done (by kernel_rfl) ?_;(refine dd0 ?_))
   refine pendL ?_
   exact fin hr (by rw [hf];rfl)
  | true =>
   (refine s_takeG 17 rfl rfl rfl (by exact di1 @hf) (by kernel_rfl) (by kernel_rfl) (v:=?v64) (fun S' hz=>dquietR_of ?h64) ?k64;(case h64=>exact dx2 @hf @hz))
   (have F:=@hf;refine stq F 18 ?_;refine stq F 19 ?_;clear F)
   cases hk:a.kind == 5 with
   | false =>
    (refine s_skipG 20 rfl rfl rfl (by first | (left;exact di2 @hf @hk;done) | (right;exact di2 @hf @hk;done)) (by kernel_rfl) (by kernel_rfl) ?_;refine s_skipG 21 rfl rfl rfl (by first | (left;exact di2 @hf @hk;done) | (right;exact di2 @hf @hk;done)) (by kernel_rfl) (by kernel_rfl) ?_)
    (have F:=pk2 @hf @hk;refine stq F 22 ?_;clear F)
    (refine s_one 23 ?_;(refine dd0 ?_))
    refine ⟨by rw [encL_eq];rfl,?_⟩
    (have F:=trivial;refine stq F 24 ?_;clear F)
    (refine s_done (by kernel_rfl) ?_;(refine dd0 ?_))
    refine pendL ?_
    exact fin hr (by rw [hf,hk];rfl)
   | true =>
    (refine s_takeG 20 rfl rfl rfl (by exact di2 @hf @hk) (by kernel_rfl) (by kernel_rfl) (v:=?v69) (fun S' hz=>dquietR_of ?h69) ?k69;(case h69=>exact dx3 @hf @hk @hz);refine s_takeG 21 rfl rfl rfl (by exact di2 @hf @hk) (by kernel_rfl) (by kernel_rfl) (v:=?v70) (fun S' hz=>dquietR_of ?h70) ?k70;(case h70=>exact dx3 @hf @hk @hz))
    (have F:=pk2 @hf @hk;refine stq F 22 ?_;clear F)
    (refine s_one 23 ?_;(refine dd0 ?_))
    refine ⟨by rw [encL_eq];rfl,?_⟩
    (have F:=trivial;refine stq F 24 ?_;clear F)
    (refine s_done (by kernel_rfl) ?_;(refine dd0 ?_))
    refine pendL ?_
    exact fin hr (by rw [hf,hk];rfl)
end
noncomputable def withinS (tg : DLens → DSch → DSch × Bool) (l : DLens) (a : DSch) : DSch × Bool :=
  if l.kind = 6 then (.mk 6 [] [a], true)
  else if l.kind = 8 then (l.typ, scaS a && fitsTop l.back a && !(l.pairs.any fun p => !fitsTop p.1 a))
  else if l.kind = 9 then tg (l.inner.headD zeroL) a
  else if a.kind = 6 then
    (if l.kind = 7 then (a.parts.headD zeroS, true)
     else ((.mk 6 [] [(tg (l.inner.headD zeroL) (a.parts.headD zeroS)).1] : DSch), (tg (l.inner.headD zeroL) (a.parts.headD zeroS)).2))
  else (a, false)
noncomputable def targetS : Nat → DLens → DSch → DSch × Bool
  | 0, _, s => (s, false)
  | n + 1, l, s =>
    if s.kind = 5 ∧ rightS 5 s = true then
      (if l.kind ≤ 5 then ((besideS l s ((fieldS s l.a).getD zeroS) (fieldS s l.a).isSome).1, (besideS l s ((fieldS s l.a).getD zeroS) (fieldS s l.a).isSome).2 && rightS 5 (besideS l s ((fieldS s l.a).getD zeroS) (fieldS s l.a).isSome).1)
       else if (fieldS s l.a).isSome = true then (withS s l.a (withinS (targetS n) l ((fieldS s l.a).getD zeroS)).1, (withinS (targetS n) l ((fieldS s l.a).getD zeroS)).2 && rightS 5 (withS s l.a (withinS (targetS n) l ((fieldS s l.a).getD zeroS)).1))
       else (s, false))
    else (s, false)
def wB:Nat→Nat
 | 0=>0
 | d+1=>9+8 * wB d
theorem wtS_le {l:List DSch} {n:Nat} (h:∀ p∈l,p.weight≤n):DSch.weights l≤l.length * n:=by
 induction l with
 | nil=>simp [DSch.weights]
 | cons p l ih =>
  have h1:=h p (List.mem_cons_self ..)
  have h2:=ih fun q hq=>h q (List.mem_cons_of_mem _ hq)
  simp only [DSch.weights,List.length_cons,Nat.add_mul]
  omega
theorem plainS_len {s:DSch} (h:plainS s=true):s.words.length≤8∧s.parts.length≤8∧(s.kind=6→s.parts.length=1)∧(s.kind=5→s.parts.length=s.words.length):=by
 unfold plainS at h
 split at h
 ·rename_i hk
  simp only [Bool.and_eq_true,decide_eq_true_eq] at h
  exact ⟨by omega,by omega,fun e=>by omega,fun e=>by omega⟩
 split at h
 ·simp only [namesB,Bool.and_eq_true,decide_eq_true_eq] at h
  exact ⟨h.2.1.1,by have:=h.2.2.2;omega,fun e=>by omega,fun e=>by omega⟩
 split at h
 ·simp only [namesB,Bool.and_eq_true,decide_eq_true_eq] at h
  exact ⟨h.1.1,by have:=h.2.2;have:=h.1.1;omega,fun e=>by omega,fun _=>h.2.2⟩
 split at h
 ·simp only [Bool.and_eq_true,decide_eq_true_eq] at h
  exact ⟨by omega,by omega,fun _=>h.2,fun e=>by omega⟩
 ·cases h
theorem rightS_wB:∀ (d:Nat) (s:DSch),rightS d s=true→s.weight≤wB d
 | 0,s,h=>by cases h
 | d+1,s,h=>by
  simp only [rightS,Bool.and_eq_true,List.all_eq_true] at h
  have h1:=plainS_len h.1
  have h2:=wtS_le (n:=wB d) fun p hp=>rightS_wB d p (h.2 p hp)
  have h3:s.parts.length * wB d≤8 * wB d:=Nat.mul_le_mul_right _ h1.2.1
  rw [s.weight_eq,wB]
  omega
theorem rightS_mono:∀ {d:Nat} {s:DSch},rightS d s=true→rightS (d+1) s=true
 | 0,s,h=>by cases h
 | d+1,s,h=>by
  rw [rightS] at h ⊢
  simp only [Bool.and_eq_true,List.all_eq_true] at h ⊢
  exact ⟨h.1,fun p hp=>rightS_mono (h.2 p hp)⟩
theorem rightS_le {d e:Nat} {s:DSch} (h:rightS d s=true) (hl:d≤e):rightS e s=true:=by
 induction hl with
 | refl=>exact h
 | step _ ih=>exact rightS_mono ih
theorem wB_le5 {d:Nat} (h:d≤5):wB d≤42129:=by
 have:d=0∨d=1∨d=2∨d=3∨d=4∨d=5:=by omega
 rcases this with rfl | rfl | rfl | rfl | rfl | rfl <;> decide
theorem wB_le4 {d:Nat} (h:d≤4):wB d≤5265:=by
 have:d=0∨d=1∨d=2∨d=3∨d=4:=by omega
 rcases this with rfl | rfl | rfl | rfl | rfl <;> decide
theorem field_right {d:Nat} {s:DSch} {x:Str} (h:rightS (d+1) s=true) (hf:(fieldS s x).isSome=true):rightS d ((fieldS s x).getD zeroS)=true:=by
 unfold fieldS at hf ⊢
 split at hf
 ·rename_i hw
  rw [if_pos hw]
  rw [rightS] at h
  simp only [Bool.and_eq_true,List.all_eq_true] at h
  have h1:=ix_lt hw.2
  have h2:ixN s.words x<s.parts.length:=by
   have:=hw.1
   simp only [wholeS,Bool.and_eq_true,decide_eq_true_eq] at this
   omega
  rw [Option.getD_some,getD_at h2]
  exact h.2 _ (List.getElem_mem h2)
 ·cases hf
def tB (d:Nat):Nat:=4 * wB d+1000
theorem head_mem {l:DLens} (h:l.inner.length=1):l.inner.headD zeroL∈l.inner:=by
 obtain ⟨x,hx⟩:=List.length_eq_one_iff.1 h
 rw [hx];exact List.mem_singleton.2 rfl
theorem headS_mem {a:DSch} (h:a.parts.length=1):a.parts.headD zeroS∈a.parts:=by
 obtain ⟨x,hx⟩:=List.length_eq_one_iff.1 h
 rw [hx];exact List.mem_singleton.2 rfl
theorem list1_wt {x:DSch} {n:Nat} (h:Wt x n) (hs:n+1≤1000000):Wt (.mk 6 [] [x]) (n+1) :=
 Wt.of (by simp [I64];decide) (fun _ h=>by cases h) (fun p hp=>List.mem_singleton.1 hp ▸ h.1) (by simp only [DSch.weights,List.length_nil];have:=h.2;omega) hs
structure Lo (k n:Nat) (l:DLens):Prop where
 room:roomL k l=true
 ok:okL l
 right:rightL n l=true
theorem Lo.typ {k n:Nat} {l:DLens} (h:Lo k n l):Wt l.typ 300:=by
 cases k with
 | zero=>exact absurd h.room (by simp [roomL])
 | succ k=>exact ⟨((okL_eq l).1 h.ok).2.2.2.1,(smallS (roomL_of h.room).typ).1⟩
theorem Lo.inner {k n:Nat} {l:DLens} (h:Lo k (n+1) l) (hk:uI l.kind=true):∃ k',Lo k' n (l.inner.headD zeroL)∧l.inner.length=1:=by
 have hr:=h.right
 simp only [rightL,hk,Bool.not_true,Bool.false_or,Bool.and_eq_true,decide_eq_true_eq,List.all_eq_true] at hr
 have hm:=head_mem hr.2.1
 cases k with
 | zero=>exact absurd h.room (by simp [roomL])
 | succ k=>exact ⟨k,⟨roomL_in h.room hm,okL_in h.ok hm,hr.2.2 _ hm⟩,hr.2.1⟩
theorem Lo.kind {k n:Nat} {l:DLens} (h:Lo k (n+1) l):1≤l.kind∧l.kind≤10:=by
 have hr:=h.right
 simp only [rightL,headL,uOk,Bool.and_eq_true,decide_eq_true_eq] at hr
 exact hr.1.1
theorem withinS_wt0 {n d k:Nat} {l:DLens} {a:DSch} (hl:Lo k (n+1) l) (hk5:5<l.kind) (hd:d+1≤5) (ha:rightS d a=true) (hak:okS a) (ih:∀ (d k:Nat) (l:DLens) (s:DSch),Lo k n l→d≤5→rightS d s=true→okS s→Wt (targetS n l s).1 (tB d)):Wt (withinS (targetS n) l a).1 (tB d+1):=by
 have h4:=wB_le4 (d:=d) (by omega)
 have haw:Wt a (wB d):=⟨hak,rightS_wB d a ha⟩
 have ht:=hl.typ
 unfold withinS
 split
 ·exact (list1_wt haw (by omega)).le (by unfold tB;omega)
 split
 ·exact ht.le (by unfold tB;omega)
 split
 ·rename_i hk
  obtain ⟨k',hi,_⟩:=hl.inner (by rw [uI,hk];rfl)
  exact (ih d k' _ a hi (by omega) ha hak).le (by omega)
 split
 ·rename_i h6
  cases d with
  | zero=>cases ha
  | succ d =>
   have ha':=ha
   rw [rightS] at ha'
   simp only [Bool.and_eq_true,List.all_eq_true] at ha'
   have hm:=headS_mem ((plainS_len ha'.1).2.2.1 h6)
   have hpo:=((okS_eq a).1 hak).2.2.2.2 _ hm
   have hpr:=ha'.2 _ hm
   split
   ·show Wt (a.parts.headD zeroS) _
    exact Wt.le (n:=wB (d+1)) ⟨hpo,by have:=DSch.weight_part hm;have:=haw.2;omega⟩ (by unfold tB;omega)
   ·rename_i k6 k8 k9 k7 
    by_cases hk:uI l.kind=true
    ·obtain ⟨k',hi,_⟩:=hl.inner hk
     exact (list1_wt (ih d k' _ _ hi (by omega) hpr hpo) (by unfold tB;rw [wB] at h4;omega)).le (by unfold tB;rw [wB];omega)
    ·exfalso
     have:=hl.kind
     simp only [uI,Bool.or_eq_true,beq_iff_eq] at hk
     omega
 ·exact haw.le (by unfold tB;omega)
theorem targetS_wt:∀ (n:Nat) (d k:Nat) (l:DLens) (s:DSch),Lo k n l→d≤5→rightS d s=true→okS s→Wt (targetS n l s).1 (tB d):=by
 intro n
 induction n with
 | zero=>intro d k l s hl;exact absurd hl.right (by simp [rightL])
 | succ n ih =>
  intro d k l s hl hd hr ho
  have hsw:Wt s (wB d):=⟨ho,rightS_wB d s hr⟩
  have h5:=wB_le5 hd
  have hs0:Wt s (tB d):=hsw.le (by unfold tB;omega)
  unfold targetS
  split
  ·split
   ·cases d with
    | zero=>cases hr
    | succ d =>
     have h1:1≤wB (d+1):=by rw [wB];omega
     exact (besideS_wt (m:=wB (d+1)) hl.ok hl.typ.2 hsw (field_wt l.a hsw h1) h1 h1 (by omega)).le (by unfold tB;omega)
   ·split
    ·rename_i hf
     cases d with
     | zero=>cases hr
     | succ d =>
      have h4:=wB_le4 (d:=d) (by omega)
      have ha:=field_right hr hf
      have hak:okS ((fieldS s l.a).getD zeroS):=(field_wt l.a hsw (by rw [wB];omega)).1
      generalize hA:(fieldS s l.a).getD zeroS=a at ha hak ⊢
      have haw:Wt a (wB d):=⟨hak,rightS_wB d a ha⟩
      have ht:=hl.typ
      have key:=withinS_wt0 hl (by omega) hd ha hak ih
      exact (withS_wt hsw key (((okL_eq l).1 hl.ok).2.1) (by unfold tB;omega)).le (by unfold tB;rw [wB];omega)
    ·exact hs0
  ·exact hs0
theorem withinS_wt {n d k:Nat} {l:DLens} {a:DSch} (hl:Lo k (n+1) l) (hk5:5<l.kind) (hd:d+1≤5) (ha:rightS d a=true) (hak:okS a):Wt (withinS (targetS n) l a).1 (tB d+1):=withinS_wt0 hl hk5 hd ha hak (targetS_wt n)
section
set_option maxRecDepth 200000
set_option maxHeartbeats 8000000
theorem within1_at (a:DSch) (p:DVal × DVal) (k:Nat) (ha:okS a) (h1:okV p.1) {S:St} (hk:S.ob k=some (.box 25 (encS a).cells)) :
  DAt Tryz.prog 112 [encPr p,.loc k 0] S (.v (.bool (!fitsTop p.1 a))):=by
 refine dat_of_dwpL mixed Tryz.func112 rfl (fun _ _=>by kernel_rfl) (rs:=[.tmp 3]) rfl (by kernel_rfl) (by trivial) (fun hS=>?_)
 have hkn:=hS.lt hk
 (refine dd2 (encPr_eq p) @hk ?_)
 rw [aggV_fold]
 refine DCalls.of_pure (fitsTop_d p.1 a h1 ha) ?_
 (refine dd0 ?_)
 refine pendL ?_
 rfl
theorem within_d (n d k:Nat) (l:DLens) (a:DSch) (hl:Lo k (n+1) l) (h6:6≤l.kind) (hd:d≤5) (ha:rightS d a=true) (hak:okS a)
  (ih:∀ k' x d' s,Lo k' n x→d'≤d→rightS d' s=true→okS s→DPure Tryz.prog 55 [encL x,encS s] (tupBs (targetS n x s))) :
  DPure Tryz.prog 79 [encL l,encS a] (tupBs (withinS (targetS n) l a)):=by
 have ho:=(okL_eq l).1 hl.ok
 have fin:∀ {x:DSch} {y:D} {b c:Bool} {r:DSch × Bool},r=(x,c)→b=c→y.frz=encS x→(D.tup [y,.v (.bool b)]).frz=tupBs r:=fun h h2 h3=>by rw [h,h2];simp only [D.frz,frzL,h3,tupBs]
 have fz1:∀ (o o2:Own) (x:DSch),(D.agg [.v (.int .i64 6),.sl o [],.sl o2 [encS x]]).frz=encS (.mk 6 [] [x]):=fun o o2 x=>by rw [encS_eq (.mk 6 [] [x])];simp only [D.frz,frzL,frz_encS];rfl
 refine dpure_of_dwp mixed Tryz.func79 rfl (fun _ _=>by kernel_rfl) (rs:=[.cell 4 25,.tmp 5]) rfl (by kernel_rfl) (tupBs_cl _) (fun S hS=>?_)
 by_cases k6:l.kind=6
 ·have b1:(l.kind == 6)=true:=by simp [k6]
  have hr:withinS (targetS n) l a=(.mk 6 [] [a],true):=by rw [withinS,if_pos k6]
  (refine dd2 (encL_eq l) @b1 ?_)
  refine pendL ?_
  exact fin hr rfl (fz1 _ _ _)
 have b1:(l.kind == 6)=false:=by simp [k6]
 by_cases k8:l.kind=8
 ·have b2:(l.kind == 8)=true:=by simp [k8]
  have hr:withinS (targetS n) l a=(l.typ,scaS a && fitsTop l.back a && !(l.pairs.any fun p => !fitsTop p.1 a)):=by rw [withinS,if_neg k6,if_pos k8]
  (refine dd3 (encL_eq l) @b1 @b2 ?_)
  refine DCalls.of_pure (scalarS_d a) ?_
  cases h1:scaS a with
  | false =>
   (refine dd1 @h1 ?_)
   rw [aggS_fold]
   refine pendL ?_
   exact fin hr (by rw [h1];rfl) (frz_encS _)
  | true =>
   (refine dd1 @h1 ?_)
   rw [aggV_fold]
   refine DCalls.of_pure (fitsTop_d l.back a ho.2.2.2.2.2.1 hak) ?_
   cases h2:fitsTop l.back a with
   | false =>
    (refine dd1 @h2 ?_)
    rw [aggS_fold]
    refine pendL ?_
    exact fin hr (by rw [h1,h2];rfl) (frz_encS _)
   | true =>
    (refine dd1 @h2 ?_)
    have hpl:l.pairs.length≤1000000:=by
     cases k with
     | zero=>exact absurd hl.room (by simp [roomL])
     | succ k=>have:=(roomL_of hl.room).pairs;omega
    refine go_at (anyPr_at (fun p => !fitsTop p.1 a) hpl fun x hx T hn hg=>?_) ?_
    ·exact within1_at a x (S.next+1) hak (ho.2.2.2.2.2.2.1 x hx).1 (hg _ _ (by exact di0))
    (refine dd0 ?_)
    rw [aggS_fold]
    refine pendL ?_
    exact fin hr (by rw [h1,h2];rfl) (frz_encS _)
 have b2:(l.kind == 8)=false:=by simp [k8]
 by_cases k9:l.kind=9
 ·have b3:(l.kind == 9)=true:=by simp [k9]
  obtain ⟨k',hi,hin⟩:=hl.inner (by rw [uI,b3];rfl)
  obtain ⟨x,hx⟩:=List.length_eq_one_iff.1 hin
  have hr:withinS (targetS n) l a=targetS n x a:=by rw [withinS,if_neg k6,if_neg k8,if_pos k9,hx];rfl
  have hi':Lo k' n x:=by rw [hx] at hi;exact hi
  (refine dd4 (encL_eq l) @b1 @b2 @b3 ?_)
  refine ddraw_any (fun S'=>S'.ob S.next=some (.box 47 (encL l).cells)∧S'.ob (S.next+1)=some (.box 25 (encS a).cells)) 10 (by exact di1 (encL_eq l)) (by kernel_rfl) ?_
  (have F:=pk5 (encL_eq l) @hx @List.map_cons.{0,0} @List.map_nil.{0,0} @List.length_singleton.{0};refine stq F 0 ?_;refine stq F 1 ?_;refine stq F 2 ?_;refine stq F 3 ?_;refine stq F 4 ?_;clear F)
  (refine stk 5 (v:=?v6) (fun S' hz=>dquietR_of ?h6) ?k6;(case h6=>((refine dd1 @hz ?_);refine dqgo_mk (ih k' x d a hi' (Nat.le_refl _) ha hak) ?_;exact rfl)))
  (have F:=@tupBs.eq_1;refine stq F 6 ?_;refine stq F 7 ?_;clear F)
  (refine s_one 8 ?_;(refine dd0 ?_))
  refine ⟨by rw [encL_eq];rfl,?_⟩
  (have F:=trivial;refine stq F 9 ?_;clear F)
  (refine s_done (by kernel_rfl) ?_;(refine dd0 ?_))
  refine pendL ?_
  exact fin (hr.trans rfl) rfl (frz_encS _)
 have b3:(l.kind == 9)=false:=by simp [k9]
 by_cases a6:a.kind=6
 ·have c1:(a.kind != 6)=false:=by simp [a6]
  have hap:a.parts.length=1:=by
   cases d with
   | zero=>cases ha
   | succ d =>
    have ha':=ha
    rw [rightS] at ha'
    simp only [Bool.and_eq_true] at ha'
    exact (plainS_len ha'.1).2.2.1 a6
  obtain ⟨y,hy⟩:=List.length_eq_one_iff.1 hap
  by_cases k7:l.kind=7
  ·have b4:(l.kind == 7)=true:=by simp [k7]
   have hr:withinS (targetS n) l a=(y,true):=by rw [withinS,if_neg k6,if_neg k8,if_neg k9,if_pos a6,if_pos k7,hy];rfl
   (refine dd11 (encL_eq l) (encS_eq a) @b1 @b2 @b3 @b4 @c1 @hy @List.map_cons.{0,0} @List.map_nil.{0,0} @List.length_singleton.{0} ?_)
   refine pendL ?_
   exact fin hr rfl (frz_encS _)
  ·have b4:(l.kind == 7)=false:=by simp [k7]
   have hu:uI l.kind=true:=by
    have:=hl.kind
    simp only [uI,Bool.or_eq_true,beq_iff_eq]
    omega
   obtain ⟨k',hi,hin⟩:=hl.inner hu
   obtain ⟨x,hx⟩:=List.length_eq_one_iff.1 hin
   have hi':Lo k' n x:=by rw [hx] at hi;exact hi
   have hr:withinS (targetS n) l a=((.mk 6 [] [(targetS n x y).1]:DSch),(targetS n x y).2):=by rw [withinS,if_neg k6,if_neg k8,if_neg k9,if_pos a6,if_neg k7,hy,hx];rfl
   cases d with
   | zero=>cases ha
   | succ d =>
   have ha':=ha
   rw [rightS] at ha'
   simp only [Bool.and_eq_true,List.all_eq_true] at ha'
   have hym:y∈a.parts:=by rw [hy];exact List.mem_singleton.2 rfl
   have hc:=ih k' x d y hi' (by omega) (ha'.2 _ hym) (((okS_eq a).1 hak).2.2.2.2 _ hym)
   (refine dd7 (encL_eq l) (encS_eq a) @b1 @b2 @b3 @b4 @c1 ?_)
   refine ddraw_any (fun S'=>S'.ob S.next=some (.box 47 (encL l).cells)∧S'.ob (S.next+1)=some (.box 25 (encS a).cells)) 15 (by exact di2 (encL_eq l) (encS_eq a)) (by kernel_rfl) ?_
   (have F:=pk7 (encL_eq l) (encS_eq a) @hx @hy @List.map_cons.{0,0} @List.map_nil.{0,0} @List.length_singleton.{0};refine stq F 0 ?_;refine stq F 1 ?_;refine stq F 2 ?_;refine stq F 3 ?_;refine stq F 4 ?_;refine stq F 5 ?_;refine stq F 6 ?_;refine stq F 7 ?_;clear F)
   (refine stk 8 (v:=?v18) (fun S' hz=>dquietR_of ?h18) ?k18;(case h18=>((refine dd1 @hz ?_);refine dqgo_mk (hc) ?_;exact rfl)))
   (have F:=@tupBs.eq_1;refine stq F 9 ?_;refine stq F 10 ?_;refine stq F 11 ?_;clear F)
   (refine s_one 12 ?_;(refine dd0 ?_))
   refine ⟨⟨by rw [encL_eq];exact di0,by rw [encS_eq];exact di0⟩,?_⟩
   (refine s_one 13 ?_;(refine dd0 ?_))
   refine ⟨⟨by rw [encL_eq];exact di0,by rw [encS_eq];exact di0⟩,?_⟩
   (have F:=trivial;refine stq F 14 ?_;clear F)
   (refine s_done (by kernel_rfl) ?_;(refine dd0 ?_))
   refine pendL ?_
   exact fin hr rfl (fz1 _ _ _)
 ·have c1:(a.kind != 6)=true:=by simp [a6]
  have hr:withinS (targetS n) l a=(a,false):=by rw [withinS,if_neg k6,if_neg k8,if_neg k9,if_neg a6]
  (refine dd6 (encL_eq l) (encS_eq a) @b1 @b2 @b3 @c1 ?_)
  rw [aggS_fold]
  refine pendL ?_
  exact fin hr rfl (frz_encS _)
end
end Go.Proofs.YtogbklnkpjjkoaaGreatDoor
namespace Go.Proofs.YtogbklnkpjjkoaaGreatDoor
structure DVer where
 name:H32
 up:Int
 lens:DLens
 sch:DSch
def upOf (vs:List DVer) (i:Nat):Int:=((vs[i]?).map (·.up)).getD (-1)
def adjB (vs:List DVer) (i k:Nat):Bool:=decide (upOf vs i=(k:Int)) || decide (upOf vs k=(i:Int))
def besL (vs:List DVer) (i:Nat):List Nat:=(List.range vs.length).filter (adjB vs i)
structure WfR (vs:List DVer):Prop where
 up:∀ i,i<vs.length→(i=0→upOf vs i=-1)∧(0<i→0≤upOf vs i∧upOf vs i<(i:Int))
 nodup:(vs.map (·.name)).Nodup
theorem upOf_lt {vs:List DVer} {i:Nat} (h:i<vs.length):upOf vs i=vs[i].up:=by simp [upOf,h]
theorem upOf_snoc {vs:List DVer} {v:DVer} {i:Nat} (h:i<vs.length):upOf (vs++[v]) i=upOf vs i:=by
 simp only [upOf,List.getElem?_append_left h]
theorem upOf_last {vs:List DVer} {v:DVer}:upOf (vs++[v]) vs.length=v.up:=by
 rw [upOf_lt (by simp)];simp
theorem besL_old {vs:List DVer} {v:DVer} {i:Nat} (hw:WfR vs) (h:i<vs.length) (hv:v.up<(vs.length:Int)):besL (vs++[v]) i=besL vs i++(if v.up=(i:Int) then [vs.length] else []):=by
 have h1:(List.range vs.length).filter (adjB (vs++[v]) i)=(List.range vs.length).filter (adjB vs i):=by
  refine List.filter_congr fun k hk=>?_
  have hk':k<vs.length:=by simpa using hk
  simp only [adjB,upOf_snoc h,upOf_snoc hk']
 have h2:adjB (vs++[v]) i vs.length=decide (v.up=(i:Int)):=by
  simp only [adjB,upOf_snoc h,upOf_last]
  have:decide (upOf vs i=(vs.length:Int))=false:=by
   refine decide_eq_false fun e=>?_
   have:=hw.up i h
   rcases Nat.eq_zero_or_pos i with h0 | h0
   ·have:=this.1 h0;omega
   ·have:=(this.2 h0).2;omega
  rw [this,Bool.false_or]
 simp only [besL,List.length_append,List.length_singleton,List.range_succ,List.filter_append,h1,List.filter_cons,List.filter_nil,h2]
 by_cases e:v.up=(i:Int) <;> simp [e]
theorem besL_new {vs:List DVer} {v:DVer} (hw:WfR vs) (h0:0≤v.up) (hv:v.up<(vs.length:Int)):besL (vs++[v]) vs.length=[v.up.toNat]:=by
 have hk:v.up.toNat<vs.length:=by omega
 have key:∀ k,k<vs.length+1→(adjB (vs++[v]) vs.length k=decide (k=v.up.toNat)):=fun k hk2=>by
  simp only [adjB,upOf_last]
  have e2:decide (upOf (vs++[v]) k=(vs.length:Int))=false:=by
   refine decide_eq_false fun e=>?_
   by_cases hk3:k<vs.length
   ·rw [upOf_snoc hk3] at e
    have:=hw.up k hk3
    rcases Nat.eq_zero_or_pos k with h0 | h0
    ·have:=this.1 h0;omega
    ·have:=(this.2 h0).2;omega
   ·obtain rfl:k=vs.length:=by omega
    rw [upOf_last] at e
    omega
  rw [e2,Bool.or_false]
  congr 1
  exact propext ⟨fun h=>by omega,fun h=>by omega⟩
 have:besL (vs++[v]) vs.length=(List.range (vs.length+1)).filter (fun k=>decide (k=v.up.toNat)):=by
  simp only [besL,List.length_append,List.length_singleton]
  exact List.filter_congr fun k hk=>key k (by simpa using hk)
 rw [this]
 have gen:∀ n,v.up.toNat<n→(List.range n).filter (fun k=>decide (k=v.up.toNat))=[v.up.toNat]:=fun n=>by
  induction n with
  | zero=>intro h;omega
  | succ n ih =>
   intro h
   rw [List.range_succ,List.filter_append]
   by_cases e:v.up.toNat<n
   ·rw [ih e]
    simp
    omega
   ·have e2:v.up.toNat=n:=by omega
    have:(List.range n).filter (fun k=>decide (k=v.up.toNat))=[]:=by
     refine List.filter_eq_nil_iff.2 fun k hk=>?_
     have:k<n:=by simpa using hk
     simp;omega
    rw [this]
    simp [e2]
 exact gen _ (by omega)
theorem besL_root {v:DVer} (hv:v.up=-1):besL [v] 0=[]:=by
 simp [besL,List.range_succ,adjB,upOf,hv]
theorem besL_lt {vs:List DVer} {i k:Nat} (h:k∈besL vs i):k<vs.length:=by
 have:=(List.mem_filter.1 h).1
 simpa using this
theorem besL_asc (vs:List DVer) (i:Nat):(besL vs i).Pairwise (· < ·):=List.pairwise_lt_range.filter _
theorem besL_len (vs:List DVer) (i:Nat):(besL vs i).length≤vs.length:=by
 have:=List.length_filter_le (adjB vs i) (List.range vs.length)
 rwa [List.length_range] at this
/-! The way out, breadth first. -/
abbrev Bf:=List Nat × List (Nat × Nat)
def bfOne (at_:Nat) (s:Bf) (k:Nat):Bf:=if k∈s.1 then s else (s.1++[k],s.2++[(at_,k)])
def bfs (vs:List DVer) (start:Nat):Nat→Bf
 | 0=>([start],[])
 | p+1=>match (bfs vs start p).1[p]? with
  | some a=>(besL vs a).foldl (bfOne a) (bfs vs start p)
  | none=>bfs vs start p
theorem bfOne_ok {n a:Nat} {s:Bf} {k:Nat} (h1:s.1.Nodup) (h2:∀ x∈s.1,x<n) (hk:k<n):(bfOne a s k).1.Nodup∧∀ x∈(bfOne a s k).1,x<n:=by
 unfold bfOne
 by_cases h:k∈s.1
 ·rw [if_pos h];exact ⟨h1,h2⟩
 ·rw [if_neg h]
  refine ⟨List.nodup_append.2 ⟨h1,by simp,fun x hx y hy e=>?_⟩,fun x hx=>?_⟩
  ·obtain rfl:=List.mem_singleton.1 hy
   subst e
   exact h hx
  ·rcases List.mem_append.1 hx with hx | hx
   ·exact h2 x hx
   ·obtain rfl:=List.mem_singleton.1 hx;exact hk
theorem bfFold_ok {n a:Nat}:∀ {l:List Nat} {s:Bf},s.1.Nodup→(∀ x∈s.1,x<n)→(∀ x∈l,x<n)→(l.foldl (bfOne a) s).1.Nodup∧∀ x∈(l.foldl (bfOne a) s).1,x<n
 | [],s,h1,h2,_=>⟨h1,h2⟩
 | k::l,s,h1,h2,h3=>by
  have:=bfOne_ok (a:=a) h1 h2 (h3 k (by simp))
  exact bfFold_ok (l:=l) this.1 this.2 fun x hx=>h3 x (by simp [hx])
theorem bfs_ok (vs:List DVer) {start:Nat} (h:start<vs.length):∀ p,(bfs vs start p).1.Nodup∧∀ x∈(bfs vs start p).1,x<vs.length
 | 0=>⟨by simp [bfs],fun x hx=>by obtain rfl:=List.mem_singleton.1 hx;exact h⟩
 | p+1=>by
  have ih:=bfs_ok vs h p
  rw [bfs]
  split
  ·exact bfFold_ok ih.1 ih.2 fun x hx=>besL_lt hx
  ·exact ih
theorem nodup_len {l:List Nat} {n:Nat} (h1:l.Nodup) (h2:∀ x∈l,x<n):l.length≤n:=by
 induction n generalizing l with
 | zero =>
  cases l with
  | nil=>simp
  | cons x l=>have:=h2 x (by simp);omega
 | succ n ih =>
  by_cases hn:n∈l
  ·have e:(l.erase n).length=l.length - 1:=List.length_erase_of_mem hn
   have:=ih (l:=l.erase n) (h1.erase n) fun x hx=>by
    have h3:=h2 x (List.mem_of_mem_erase hx)
    have h4:x ≠ n:=fun e=>(List.Nodup.not_mem_erase h1) (e ▸ hx)
    omega
   omega
  ·have:=ih h1 fun x hx=>by
    have h3:=h2 x hx
    have h4:x ≠ n:=fun e=>hn (e ▸ hx)
    omega
   omega
theorem bfs_len (vs:List DVer) {start:Nat} (h:start<vs.length) (p:Nat):(bfs vs start p).1.length≤vs.length:=nodup_len (bfs_ok vs h p).1 (bfs_ok vs h p).2
theorem bfs_at {vs:List DVer} {start p:Nat} (h:p<(bfs vs start p).1.length):bfs vs start (p+1)=(besL vs ((bfs vs start p).1[p])).foldl (bfOne ((bfs vs start p).1[p])) (bfs vs start p):=by
 rw [bfs,List.getElem?_eq_getElem h]
theorem bfs_stop {vs : List DVer} {start p : Nat} (h : (bfs vs start p).1.length ≤ p) : ∀ q, p ≤ q → bfs vs start q = bfs vs start p := fun q hq => by
  induction q with
  | zero => obtain rfl : p = 0 := by omega
            rfl
  | succ q ih =>
    by_cases e : p = q + 1
    · rw [e]
    · have := ih (by omega)
      rw [bfs, this, List.getElem?_eq_none (by omega)]
theorem bfFold_len {a:Nat}:∀ {l:List Nat} {s:Bf},s.1.length≤(l.foldl (bfOne a) s).1.length
 | [],s=>Nat.le_refl _
 | k::l,s=>by
  have h:s.1.length≤(bfOne a s k).1.length:=by
   unfold bfOne
   split
   ·exact Nat.le_refl _
   ·simp
  exact Nat.le_trans h (bfFold_len (l:=l))
theorem bfFold_len2 {a:Nat}:∀ {l:List Nat} {s:Bf},s.2.length+1=s.1.length→(l.foldl (bfOne a) s).2.length+1=(l.foldl (bfOne a) s).1.length
 | [],s,h=>h
 | k::l,s,h=>by
  have h1:(bfOne a s k).2.length+1=(bfOne a s k).1.length:=by
   unfold bfOne
   split
   ·exact h
   ·simp only [List.length_append,List.length_singleton];omega
  exact bfFold_len2 (l:=l) h1
theorem bfs_len2 (vs:List DVer) (start:Nat):∀ p,(bfs vs start p).2.length+1=(bfs vs start p).1.length
 | 0=>rfl
 | p+1=>by
  have ih:=bfs_len2 vs start p
  rw [bfs]
  split
  ·exact bfFold_len2 ih
  ·exact ih
theorem bfs_mono (vs : List DVer) (start : Nat) {p q : Nat} (h : p ≤ q) : (bfs vs start p).1.length ≤ (bfs vs start q).1.length := by
  induction q with
  | zero => obtain rfl : p = 0 := by omega
            exact Nat.le_refl _
  | succ q ih =>
    by_cases e : p = q + 1
    · rw [e]; exact Nat.le_refl _
    · refine Nat.le_trans (ih (by omega)) ?_
      rw [bfs]
      split
      · exact bfFold_len
      · exact Nat.le_refl _
def bfR (vs:List DVer) (start:Nat):Nat:=(bfs vs start vs.length).1.length
theorem bfR_le {vs:List DVer} {start:Nat} (h:start<vs.length):bfR vs start≤vs.length:=bfs_len vs h _
theorem bfR_go {vs:List DVer} {start i:Nat} (h:start<vs.length) (hi:i<bfR vs start):i<(bfs vs start i).1.length:=by
 rcases Nat.lt_or_ge i (bfs vs start i).1.length with h1 | h1
 ·exact h1
 ·have:=bfR_le h
  have h2:=bfs_stop h1 vs.length (by omega)
  unfold bfR at hi
  rw [h2] at hi
  omega
theorem bfR_end {vs:List DVer} {start:Nat} (h:start<vs.length):(bfs vs start (bfR vs start)).1.length≤bfR vs start:=bfs_mono vs start (bfR_le h)
def outW (vs:List DVer) (start:Nat):List (Nat × Nat):=(bfs vs start vs.length).2
theorem bfs_fin {vs:List DVer} {start:Nat} (h:start<vs.length):(bfs vs start (bfR vs start)).2=outW vs start:=by
 rw [outW,bfs_stop (bfR_end h) _ (bfR_le h)]
end Go.Proofs.YtogbklnkpjjkoaaGreatDoor
namespace Go.Proofs.YtogbklnkpjjkoaaGreatDoor
open Go.RowKit
def hV (h:H32):Value:=.agg (h.1.map bV).toArray
def mapL (m:List (H32 × Nat)):List (Value × Value):=m.map fun p=>(hV p.1,.int .i64 (p.2:Int))
def mget (m:List (H32 × Nat)) (h:H32):Option Nat:=(m.find? fun p=>decide (h=p.1)).map (·.2)
section
variable {P : Program} {base : Nat} {S : St} {η : Names} {w : World}
theorem mp_cell {b:Nat} {es:Array MapEntry} {c:Nat} (h:w.heap[b]? = some (.map es c)) (i:Nat):w.cell? ⟨b,i,none⟩=none:=by
 unfold World.cell?
 rw [h]
theorem mp_put {b:Nat} {es es':Array MapEntry} {c c':Nat} (h:w.heap[b]? = some (.map es c)) (q i:Nat):(w.putObj b (.map es' c')).cell? ⟨q,i,none⟩=w.cell? ⟨q,i,none⟩:=by
 by_cases e:q=b
 ·subst e
  rw [mp_cell h,mp_cell (World.putObj_heap_same (Array.getElem?_eq_some_iff.1 h).1)]
 ·exact World.cell?_of_block (World.putObj_heap_other e)
theorem goes_map (h:Mem P base S η w):Goes P base S η w (S.add (.mp w.heap.size [])) (η.add S.next (some w.heap.size)) (w.alloc (.map #[] 0)):=by
 have hd:=h.dead S.next (Nat.le_refl _)
 have hold:∀ k b,η k=some b→k ≠ S.next:=fun k b hk e=>by subst e;rw [hd] at hk;cases hk
 have K:Keep (fun _=>True) w η (Fix P S η) (w.alloc (.map #[] 0)) (η.add S.next (some w.heap.size)) (Fix P (S.add (.mp w.heap.size [])) (η.add S.next (some w.heap.size))):=by
  refine ⟨by simp,fun b i hb hx=>⟨fun k o' hk hk'=>?_,World.cell?_alloc_lt w _ _ hb⟩,fun k b _ hk=>?_,fun b c _ hx=>⟨c,by rw [Below.heap_alloc w _ b ((Array.getElem?_eq_some_iff.1 hx).1)];exact hx,rfl⟩⟩
  ·simp only [Names.add,St.add] at hk hk'
   by_cases e:k=S.next
   ·rw [if_pos e] at hk;injection hk with hk;injection hk with hk;omega
   ·rw [if_neg e] at hk hk'
    exact hx k o' hk hk'
  ·simp only [Names.add];rw [if_neg (hold k b hk)];exact hk
 have hlt:∀ k b,η k=some (some b)→(w.alloc (.map #[] 0)).heap[b]? = w.heap[b]? := fun k b hk=>Below.heap_alloc w _ b (h.in_ k b hk).2
 refine ⟨⟨by simp;have:=h.base_;omega,fun k hk=>?_,fun k hk=>?_,fun k t' cs hk=>?_,fun k k' b h1 h2 h3 h4=>?_,fun k b hk=>?_,fun k t' cs b h1 h2=>?_,fun k e n b h1 h2=>?_,h.glob.below ((Below.refl _ _).alloc h.base_ _),fun k b l hk=>?_⟩,K,(Below.refl _ _).alloc h.base_ _,fun _=>Nat.le_refl _,Loops.alloc _ _⟩
 ·have hk':S.next+1≤k:=hk
  simp only [Names.add];rw [if_neg (by omega)];exact h.dead k (by omega)
 ·have hk':S.next+1≤k:=hk
  simp only [St.add];rw [if_neg (by omega)];exact h.fresh k (by omega)
 ·simp only [Names.add]
  by_cases e:k=S.next
  ·exact ⟨_,if_pos e⟩
  ·simp only [St.add] at hk
   rw [if_neg e] at hk ⊢
   exact h.live k t' cs hk
 ·simp only [Names.add,St.add] at h1 h2 h3 h4
  by_cases e:k=S.next <;> by_cases e':k'=S.next
  ·omega
  ·rw [if_pos e] at h1;rw [if_neg e'] at h2
   injection h1 with h1
   injection h1 with h1
   have:=(h.in_ k' b h2).2
   omega
  ·rw [if_neg e] at h1;rw [if_pos e'] at h2
   injection h2 with h2
   injection h2 with h2
   have:=(h.in_ k b h1).2
   omega
  ·rw [if_neg e] at h1 h3;rw [if_neg e'] at h2 h4
   exact h.inj k k' b h1 h2 h3 h4
 ·simp only [Names.add] at hk
  by_cases e:k=S.next
  ·rw [if_pos e] at hk;injection hk with hk;injection hk with hk;subst hk;exact ⟨h.base_,by simp⟩
  ·rw [if_neg e] at hk
   exact ⟨(h.in_ k b hk).1,by simp;have:=(h.in_ k b hk).2;omega⟩
 ·simp only [Names.add,St.add] at h1 h2
  by_cases e:k=S.next
  ·rw [if_pos e] at h1;cases h1
  ·rw [if_neg e] at h1 h2
   obtain ⟨vs,k1,k2,k3⟩:=h.box k t' cs b h1 h2
   exact ⟨vs,(hlt k b h2).trans k1,RepL.keep K (allL_true _) k2,k3⟩
 ·simp only [Names.add,St.add] at h1 h2
  by_cases e':k=S.next
  ·rw [if_pos e'] at h1;cases h1
  ·rw [if_neg e'] at h1 h2
   obtain ⟨c,k1,k2⟩:=h.row k e n b h1 h2
   exact ⟨c,(hlt k b h2).trans k1,k2⟩
 ·simp only [Names.add,St.add] at hk ⊢
  by_cases e':k=S.next
  ·rw [if_pos e'] at hk ⊢
   injection hk with hk
   injection hk with hk1 hk2
   subst hk1 hk2
   exact ⟨rfl,#[],0,heap_alloc_new w _,rfl⟩
  ·rw [if_neg e'] at hk ⊢
   obtain ⟨k1,es,c,k2,k3⟩:=h.mp k b l hk
   exact ⟨k1,es,c,(hlt k b k1).trans k2,k3⟩
theorem goes_mput (h:Mem P base S η w) {k b c c':Nat} {l l':List (Value × Value)} {es es':Array MapEntry} (hk:S.ob k=some (.mp b l)) (he:w.heap[b]? = some (.map es c)) (hl:es'.toList.map (fun e=>(e.key,e.val))=l') :
  Goes P base S η w (S.set k (.mp b l')) η (w.putObj b (.map es' c')):=by
 obtain ⟨hb,_⟩:=h.mp k b l hk
 have hlive:(S.ob k).isSome=true:=by rw [hk];rfl
 have oth:∀ q,q ≠ b→(w.putObj b (.map es' c')).heap[q]? = w.heap[q]? := fun q hq=>World.putObj_heap_other hq
 have cel:∀ {q:Nat} {cur:Array Value} {e:TypeId} {fr:Nat × Nat},w.heap[q]? = some (.cells cur e fr)→(w.putObj b (.map es' c')).heap[q]? = some (.cells cur e fr):=fun {q} {cur} {e} {fr} hq=>(oth q (fun e'=>by subst e';rw [he] at hq;cases hq)).trans hq
 have K:Keep (fun _=>True) w η (Fix P S η) (w.putObj b (.map es' c')) η (Fix P (S.set k (.mp b l')) η):=by
  refine ⟨by simp,fun q i hq hx=>⟨fun j o hj hj'=>?_,mp_put he q i⟩,fun _ _ _ hx=>hx,fun q c e hx=>⟨c,cel hx,rfl⟩⟩
  simp only [St.set] at hj'
  by_cases e:j=k
  ·subst e
   rw [hj] at hb
   injection hb with hb
   injection hb with hb
   subst hb
   exact (hx j _ hj hk).elim
  ·rw [if_neg e] at hj';exact hx j o hj hj'
 have B:Below base w (w.putObj b (.map es' c')):=⟨rfl,rfl,rfl,by simp,fun q hq=>oth q (by have:=(h.in_ k b hb).1;omega)⟩
 refine ⟨⟨by simpa using h.base_,h.dead,fun j hj=>?_,fun j t' c' hj=>?_,fun j j' q h1 h2 h3 h4=>?_,fun j q hj=>by simpa using h.in_ j q hj,fun j t' c' q hj hj'=>?_,fun j e n q hj hj'=>?_,h.glob.below B,fun j q m hj=>?_⟩,K,B,fun _=>Nat.le_refl _,fun q o hq ho=>?_⟩
 ·have hj':S.next≤j:=hj
  have:j ≠ k:=fun e=>by subst e;rw [h.fresh j hj'] at hk;cases hk
  simp only [St.set];rw [if_neg this];exact h.fresh j hj'
 ·simp only [St.set] at hj
  by_cases e:j=k
  ·rw [if_pos e] at hj;cases hj
  ·rw [if_neg e] at hj;exact h.live j t' c' hj
 ·have live:∀ i,((S.set k (.mp b l')).ob i).isSome=true→(S.ob i).isSome=true:=fun i hi=>by
   simp only [St.set] at hi
   by_cases e:i=k
   ·subst e;exact hlive
   ·rwa [if_neg e] at hi
  exact h.inj j j' q h1 h2 (live j h3) (live j' h4)
 ·simp only [St.set] at hj
  by_cases e:j=k
  ·rw [if_pos e] at hj;cases hj
  ·rw [if_neg e] at hj
   obtain ⟨us,k1,k2,k3⟩:=h.box j t' c' q hj hj'
   exact ⟨us,cel k1,RepL.keep K (allL_true _) k2,k3⟩
 ·simp only [St.set] at hj
  by_cases e':j=k
  ·rw [if_pos e'] at hj;cases hj
  ·rw [if_neg e'] at hj
   obtain ⟨c,k1,k2⟩:=h.row j e n q hj hj'
   exact ⟨c,cel k1,k2⟩
 ·simp only [St.set] at hj
  by_cases e':j=k
  ·rw [if_pos e'] at hj
   injection hj with hj
   injection hj with hj1 hj2
   subst hj1 hj2 e'
   exact ⟨hb,es',c',World.putObj_heap_same (Array.getElem?_eq_some_iff.1 he).1,hl⟩
  ·rw [if_neg e'] at hj
   obtain ⟨k1,es2,c2,k2,k3⟩:=h.mp j q m hj
   have hne:q ≠ b:=fun e''=>by subst e'';exact e' (h.inj j k q k1 hb (by rw [hj];rfl) hlive)
   exact ⟨k1,es2,c2,(oth q hne).trans k2,k3⟩
 ·have hne:q ≠ b:=fun e=>by subst e;rw [he] at hq;injection hq with hq;subst hq;cases ho
  exact (oth q hne).trans hq
end
section
variable {S : St}
theorem part_byte (l:List UInt8) (w:World) (j:Nat) (hj:j<l.length):(part 5 (l.map bV).toArray (j * 1)).run Tryz.prog w=.ok (bV l[j]) w:=by
 have h:(isAgg 5).run Tryz.prog w=.ok false w:=by kernel_rfl
 simp [part,Sem.run_bind,h,hj]
theorem check_byte (em:Bool) (d:Nat) (b:UInt8) (w:World):(Instr.checkKey em (d+1) 5 (bV b)).run Tryz.prog w=.ok () w:=by
 rw [Instr.checkKey]
 simp only [Sem.run_bind,run_underlying Tryz.underlying5,Result.andThen_ok,bV]
 rfl
theorem check_hash (em:Bool) (h:H32) (w:World):(Instr.checkKey em 10000 39 (hV h)).run Tryz.prog w=.ok () w:=by
 rw [show 10000=9999+1 from rfl,Instr.checkKey]
 have hz:(Go.sizeOf 5).run Tryz.prog w=.ok 1 w:=by kernel_rfl
 simp only [Sem.run_bind,run_underlying Tryz.underlying39,Result.andThen_ok,hV]
 simp only [Std.Legacy.Range.forIn_eq_forIn_range',Std.Legacy.Range.size,Nat.sub_zero,Nat.add_one_sub_one,Nat.div_one]
 have each:∀ j∈List.range' 0 32,j<h.1.length:=fun j hj=>by
  have:=List.mem_range'.1 hj
  rw [h.2];omega
 generalize List.range' 0 32=is at each
 induction is with
 | nil=>simp
 | cons j is ih =>
  have p1:=part_byte h.1 w j (each j (by simp))
  have p2:=check_byte em 9998 (h.1[j]'(each j (by simp))) w
  rw [show 9998+1=9999 from rfl] at p2
  simp only [List.forIn_cons,Sem.run_bind,hz,Result.andThen_ok,p1,p2,Sem.run_pure]
  exact ih fun y hy=>each y (by simp [hy])
theorem find_hash (w:World) (h:H32):∀ (es:List MapEntry) (m:List (H32 × Nat)) (i:Nat),es.map (fun e=>(e.key,e.val))=mapL m→∃ r:Option (Nat × Value),(Instr.findAsking 39 (hV h) es i).run Tryz.prog w=.ok r w∧r.map (·.2)=(mget m h).map fun n:Nat=>Value.int .i64 (n:Int)
 | [],[],i,_=>⟨none,rfl,rfl⟩
 | [],_::_,i,e=>by cases e
 | _::_,[],i,e=>by cases e
 | e::es,p::m,i,he=>by
  simp only [List.map_cons,mapL,List.cons.injEq,Prod.mk.injEq] at he
  obtain ⟨⟨h1,h2⟩,h3⟩:=he
  have hq:(Op.equal 39 (hV h) e.key).run Tryz.prog w=.ok (decide (h=p.1)) w:=by
   rw [h1];exact equalIn_hash 9998 h p.1 w
  rw [Instr.findAsking]
  simp only [Sem.run_bind,hq,Result.andThen_ok,Sem.run_ite]
  by_cases hp:h=p.1
  ·refine ⟨some (i,e.val),by simp [hp,Sem.run_pure],?_⟩
   simp [mget,hp,h2]
  ·obtain ⟨r,r1,r2⟩:=find_hash w h es m (i+1) h3
   refine ⟨r,by simp [hp,r1],?_⟩
   rw [r2]
   simp [mget,hp]
theorem findKey_hash (w:World) (h:H32) (es:List MapEntry) (m:List (H32 × Nat)) (he:es.map (fun e=>(e.key,e.val))=mapL m):∃ r:Option (Nat × Value),(Instr.findKey 39 (hV h) es).run Tryz.prog w=.ok r w∧r.map (·.2)=(mget m h).map fun n:Nat=>Value.int .i64 (n:Int):=by
 cases es with
 | nil =>
  obtain rfl:m=[]:=by cases m with | nil=>rfl | cons _ _=>cases he
  exact ⟨none,by simp [Instr.findKey,run_underlying Tryz.underlying39,Instr.findNow,Sem.run_bind,Sem.run_pure],rfl⟩
 | cons e es =>
  obtain ⟨r,r1,r2⟩:=find_hash w h (e::es) m 0 he
  refine ⟨r,?_,r2⟩
  simp only [Instr.findKey,Sem.run_bind,run_underlying Tryz.underlying39,Result.andThen_ok,Instr.findNow]
  have:Instr.sameNow (.array 32 5) (hV h) e.key=none:=by
   unfold Instr.sameNow;split <;> simp_all
  rw [this]
  exact r1
theorem repL_hash {P:Program} {w:World} {η:Names} {X:Nat→Nat→Prop} {h:H32} {v:Value} (hr:Rep P w η X (encH h) v):v=hV h:=by
 simp only [encH,Rep] at hr
 obtain ⟨us,rfl,h1,_⟩:=hr
 rw [vals_rep (vals_bytes h.1) h1]
 rfl
def dmput (P:Program) (t:TypeId) (m k x:D) (S:St) (K:D→St→Prop):Prop:=DRun P (fun vs=>do Instr.mapUpdate t (vs.getD 0 undef) (vs.getD 1 undef) (vs.getD 2 undef);pure undef) [m,k,x] S fun d S'=>d=undefD∧K d S'
theorem dop_mapUpdate {P:Program} {f:Fm} {ty:TypeId} {K:D→St→Prop} (t:TypeId) (m k x:Operand):dop P f S ty (.mapUpdate t m k x) K=dmput P t (ev f m) (ev f k) (ev f x) S K:=Eq.trans (Eq.refl _) (Eq.refl _)
def dmmake (P:Program) (t:TypeId) (S:St) (K:D→St→Prop):Prop:=DRun P (fun vs=>Instr.makeMap t vs.head?) [] S K
theorem dop_makeMap {P:Program} {f:Fm} {ty:TypeId} {K:D→St→Prop} (t:TypeId):dop P f S ty (.makeMap t none) K=dmmake P t S K:=Eq.trans (Eq.refl _) (Eq.refl _)
attribute [go_sem] dop_mapUpdate dop_makeMap
theorem dlook_hash {k b:Nat} {m:List (H32 × Nat)} (hk:S.ob k=some (.mp b (mapL m))) (h:H32) {K:D→St→Prop} (hK:K (.tup [.v (.int .i64 (((mget m h).getD 0:Nat):Int)),.v (.bool (mget m h).isSome)]) S):dlookup Tryz.prog 93 (.v (.map (some b))) (encH h) true S K:=by
 intro base η w vs hM hr
 simp only [RepL] at hr
 obtain ⟨x1,_,rfl,r1,x2,_,rfl,r2,rfl⟩:=hr
 simp only [Rep] at r1
 subst r1
 obtain rfl:=repL_hash r2
 obtain ⟨hb,es,c,he,hl⟩:=hM.mp k b _ hk
 obtain ⟨r,f1,f2⟩:=findKey_hash w h es.toList m hl
 have hz:(zeroValue 3).run Tryz.prog w=.ok (.int .i64 0) w:=by kernel_rfl
 refine ⟨_,S,η,.tuple #[.int .i64 (((mget m h).getD 0:Nat):Int),.bool (mget m h).isSome],w,?_,hK,?_,Goes.refl hM⟩
 ·simp only [List.getD_cons_zero,List.getD_cons_succ,Instr.lookup,Sem.run_bind,run_underlying Tryz.underlying93,Result.andThen_ok,MapKept.run_getObj_map he,Sem.run_pure,check_hash,f1]
  cases r with
  | none =>
   cases hg:mget m h with
   | none=>simp [Sem.run_bind,hz,Sem.run_pure]
   | some n=>rw [hg] at f2;cases f2
  | some p =>
   cases hg:mget m h with
   | none=>rw [hg] at f2;cases f2
   | some n =>
    rw [hg] at f2
    simp only [Option.map_some,Option.some.injEq] at f2
    simp [Sem.run_bind,Sem.run_pure,f2]
 ·simp only [Rep,RepL]
  exact ⟨_,rfl,_,_,rfl,rfl,_,_,rfl,rfl,rfl⟩
theorem dput_hash {k b:Nat} {m:List (H32 × Nat)} (hk:S.ob k=some (.mp b (mapL m))) (h:H32) (n:Nat) (hn:mget m h=none) {K:D→St→Prop} (hK:K undefD (S.set k (.mp b (mapL (m++[(h,n)]))))):dmput Tryz.prog 93 (.v (.map (some b))) (encH h) (.v (.int .i64 (n:Int))) S K:=by
 intro base η w vs hM hr
 simp only [RepL] at hr
 obtain ⟨x1,_,rfl,r1,x2,_,rfl,r2,x3,_,rfl,r3,rfl⟩:=hr
 simp only [Rep] at r1 r3
 subst r1 r3
 obtain rfl:=repL_hash r2
 obtain ⟨hb,es,c,he,hl⟩:=hM.mp k b _ hk
 obtain ⟨r,f1,f2⟩:=findKey_hash w h es.toList m hl
 have hr0:r=none:=by rw [hn] at f2;cases r with | none=>rfl | some _=>cases f2
 subst hr0
 have G:=goes_mput (l':=mapL (m++[(h,n)])) (es':=es.push { key:=hV h,val:=.int .i64 (n:Int),born:=c }) (c':=c+1) hM hk he (by simp [hl,mapL])
 refine ⟨undefD,_,η,undef,_,?_,⟨rfl,hK⟩,?_,G⟩
 ·simp only [List.getD_cons_zero,List.getD_cons_succ,Instr.mapUpdate,Sem.run_bind,run_underlying Tryz.underlying93,Result.andThen_ok,MapKept.run_getObj_map he,Sem.run_pure,check_hash,f1,MapKept.run_setObj_map _ he]
  rfl
 ·simp only [Rep,RepL];exact ⟨[],rfl,rfl⟩
theorem dmake_map {K:D→St→Prop} (hK:∀ b,K (.v (.map (some b))) (S.add (.mp b (mapL [])))):dmmake Tryz.prog 93 S K:=by
 intro base η w vs hM hr
 simp only [RepL] at hr
 subst hr
 exact ⟨_,_,_,.map (some w.heap.size),_,rfl,hK w.heap.size,by simp only [Rep],goes_map hM⟩
end
end Go.Proofs.YtogbklnkpjjkoaaGreatDoor
