/- Texts of a proof, part 9. Conditions: none. -/
import Derived.Test.YtogbklnkpjjkoaaGreatDoorW8
set_option linter.unusedVariables false
set_option linter.unusedSimpArgs false
namespace Go.Proofs.YtogbklnkpjjkoaaGreatDoor
open Go.RowKit
mutual
def depthL:DLens→Nat
 | .mk _ _ _ _ _ _ _ is=>depthLs is+1
def depthLs:List DLens→Nat
 | []=>0
 | l::ls=>max (depthL l) (depthLs ls)
end
theorem depthL_eq (l:DLens):depthL l=depthLs l.inner+1:=by obtain ⟨k,a,b,t,u,v,ps,is⟩:=l;rw [depthL];rfl
theorem depthLs_app (a b:List DLens):depthLs (a++b)=max (depthLs a) (depthLs b):=by
 induction a with
 | nil=>simp [depthLs]
 | cons p l ih=>simp only [List.cons_append,depthLs,ih];omega
theorem depthLs_take {l:List DLens} {i:Nat} (h:i<l.length):depthLs (l.take (i+1))=max (depthLs (l.take i)) (depthL l[i]):=by
 rw [List.take_succ_eq_append_getElem h,depthLs_app];simp [depthLs]
theorem depthLs_le {ls:List DLens} {n:Nat}:depthLs ls≤n↔∀ x∈ls,depthL x≤n:=by
 induction ls with
 | nil=>simp [depthLs]
 | cons p l ih=>simp only [depthLs,List.mem_cons,forall_eq_or_imp];rw [← ih];omega
theorem room_depth:∀ {k:Nat} {l:DLens},roomL k l=true→depthL l≤k
 | 0,l,h=>by cases h
 | k+1,l,h=>by
  rw [depthL_eq]
  have:=(depthLs_le (ls:=l.inner) (n:=k)).2 fun x hx=>room_depth (roomL_in h hx)
  omega
section
set_option maxRecDepth 200000
set_option maxHeartbeats 8000000
theorem named_d (k:Int):DPure Tryz.prog 90 [.v (.int .i64 k)] (.v (.bool (uB k))):=by
 refine dpure_of_dwp mixed Tryz.func90 rfl (fun _ _=>by kernel_rfl) (rs:=[.tmp 2]) rfl (by kernel_rfl) trivial (fun S hS=>?_)
 cases h1:k == 1
 ·cases h2:k == 4
  ·(refine dd2 @h1 @h2 ?_)
   refine pendL ?_
   simp only [uB,h1,h2];rfl
  ·(refine dd2 @h1 @h2 ?_)
   refine pendL ?_
   simp only [uB,h1,h2];rfl
 ·(refine dd1 @h1 ?_)
  refine pendL ?_
  simp only [uB,h1];rfl
theorem typed14_d (k:Int):DPure Tryz.prog 91 [.v (.int .i64 k)] (.v (.bool (uT k))):=by
 refine dpure_of_dwp mixed Tryz.func91 rfl (fun _ _=>by kernel_rfl) (rs:=[.tmp 2]) rfl (by kernel_rfl) trivial (fun S hS=>?_)
 cases h1:k == 2
 ·cases h2:k == 3
  ·(refine dd2 @h1 @h2 ?_)
   refine pendL ?_
   simp only [uT,h1,h2];rfl
  ·(refine dd2 @h1 @h2 ?_)
   refine pendL ?_
   simp only [uT,h1,h2];rfl
 ·(refine dd1 @h1 ?_)
  refine pendL ?_
  simp only [uT,h1];rfl
theorem scalar14_d (v:DVal) (hok:okV v) (hw:v.weight≤1000000):DPure Tryz.prog 92 [encV v] (.v (.bool (scalarV v))):=by
 refine dpure_of_dwp mixed Tryz.func92 rfl (fun _ _=>by kernel_rfl) (rs:=[.tmp 2]) rfl (by kernel_rfl) trivial (fun S hS=>?_)
 have hd:=DVal.depth_weight v.depth v (Nat.le_refl _)
 have e:scalarV v=(decide (v.kind<5) && rightV 5 v):=by
  rw [scalarV,Bool.and_comm]
  congr 1
  exact decide_eq_decide.2 (by omega)
 cases h:decide (v.kind<5) with
 | false =>
  (refine dd2 (encV_eq v) @h ?_)
  refine pendL ?_
  rw [e,h];rfl
 | true =>
  (refine dd2 (encV_eq v) @h ?_)
  rw [aggV_fold]
  refine DCalls.of_pure (refValRight_d v hok (by omega)) ?_
  (refine dd0 ?_)
  refine pendL ?_
  rw [e,h];rfl
theorem depth14_d:∀ (k:Nat) (l:DLens),roomL k l=true→k≤1000→DPure Tryz.prog 65 [encL l] (.v (.int .i64 ((depthL l:Nat):Int))):=by
 intro k
 induction k with
 | zero=>intro l h;cases h
 | succ k ih =>
  intro l hr hk
  have hin:=(roomL_of hr).inner
  refine dpure_of_dwp mixed Tryz.func65 rfl (fun _ _=>by kernel_rfl) (rs:=[.tmp 2]) rfl (by kernel_rfl) trivial (fun S hS=>?_)
  (refine dd1 (encL_eq l) ?_)
  (refine dloop_st (fun t=>List.contains [3,4,5,6,7,8,9,10,11,12,13,14,15,16,17,18,19,20,21,22,23] t) (by kernel_rfl) ?_ (l.inner.length) (fun i f=>i≤l.inner.length∧f 3=.v (.int .i64 ((depthLs (l.inner.take i)+1:Nat):Int))∧f 4=.v (.int .i64 ((i:Nat):Int))) ?_ ?_;(exact wfA);(exact ⟨(by omega),(by exact di0),(by exact di0)⟩);intro i g tn hn hT hg hI;obtain ⟨le,q3,q4⟩:=hI;have q1:=hg 1 rfl;have q2:=hg 2 rfl;simp (disch:=first | decide | omega | (simp only [nx];first | done | omega)) only [go_sem] at q1 q2;clear hg;have hn':=hn;try simp only [add_next,set_next,grow_next,leave_next,drop_next] at hn')
  by_cases hlt:i<l.inner.length
  ·have b1:decide ((i:Int)<(l.inner.length:Int))=true:=decide_eq_true (by omega)
   have w1:IntKind.i64.wrap ((i:Int)+1)=((i+1:Nat):Int):=IntWalk.i64_in _ ⟨by omega,by omega⟩
   have hx:=List.getElem_mem hlt
   have hd:=room_depth (roomL_in hr hx)
   have w2:IntKind.i64.wrap (((depthL l.inner[i]:Nat):Int)+1)=((depthL l.inner[i]+1:Nat):Int):=IntWalk.i64_in _ ⟨by omega,by omega⟩
   have hget:=getD_map encL l.inner i hlt
   (refine dd6 @q1 @q3 @q4 @b1 @hget @hlt ?_)
   refine DCalls.of_pure (ih l.inner[i] (roomL_in hr hx) (by omega)) ?_
   have ht:=depthLs_take hlt
   cases h:decide (((depthL l.inner[i]+1:Nat):Int) > ((depthLs (l.inner.take i)+1:Nat):Int)) with
   | true =>
    have h':=of_decide_eq_true h
    have e:depthLs (l.inner.take (i+1))+1=depthL l.inner[i]+1:=by rw [ht];omega
    (refine dd6 @q1 @q3 @q4 @w2 @h @w1 ?_)
    (refine ⟨by omega,subA,?_⟩;refine ⟨by omega,?_,?_⟩;all_goals (try exact di2 @w1 @e))
   | false =>
    have h':=of_decide_eq_false h
    have e:depthLs (l.inner.take (i+1))+1=depthLs (l.inner.take i)+1:=by rw [ht];omega
    (refine dd6 @q1 @q3 @q4 @w2 @h @w1 ?_)
    (refine ⟨by omega,subA,?_⟩;refine ⟨by omega,?_,?_⟩;all_goals (try exact di3 @w1 @e @q3))
  ·have b1:decide ((i:Int)<(l.inner.length:Int))=false:=decide_eq_false (by omega)
   (refine dd4 @q1 @q3 @q4 @b1 ?_)
   refine pendL ?_
   rw [depthL_eq,List.take_of_length_le (by omega)];rfl
end
def s1B (l:DLens):Bool:=uOk l.kind && nameB l.a
def s2B (l:DLens):Bool:=if uB l.kind then nameB l.b && !(l.a == l.b) else l.b == []
noncomputable def s3B (l:DLens):Bool:=if uT l.kind then fitsTop l.base l.typ else eqB l.typ zeroS && eqB l.base zeroV0
noncomputable def s4B (l:DLens):Bool:=l.kind == 8 || (eqB l.back zeroV0 && decide (l.pairs.length=0))
def s5B (l:DLens):Bool := !(l.kind == 8) || (!decide (l.typ.kind > 4) && (scalarV l.back && (decide (l.pairs.length≤8) && l.pairs.all (fun p=>scalarV p.1 && fitsTop p.2 l.typ))))
noncomputable def soundL:Nat→DLens→Bool
 | 0,_=>false
 | n+1,l=>s1B l && (s2B l && (s3B l && (s4B l && (s5B l && (if l.kind<9 then decide (l.inner.length=0) else decide (l.inner.length=1) && l.inner.all (soundL n))))))
theorem valSame0_d (a:DVal) (hok:okV a) (hw:a.weight≤1000000):DPure Tryz.prog 45 [encV a,.agg [.v (.int .i64 0),.v (.int .i64 0),.v (sv []),.sl .full [],.sl .full [],.sl .full []]] (.v (.bool (eqB a zeroV0))):=fun S =>
 dcalls_argfz (by
  have h:=refSameV_d a zeroV0 hok (by simp [zeroV0,okV,okVs,I64];decide) S
  rw [encV_eq zeroV0] at h
  simp only [frzL,D.frz,frz_encV]
  exact h)
theorem schSame0_d (a:DSch) (ha:okS a):DPure Tryz.prog 22 [encS a,.agg [.v (.int .i64 0),.sl .full [],.sl .full []]] (.v (.bool (eqB a zeroS))):=fun S =>
 dcalls_argfz (by
  have h:=refSameS_d a zeroS ha zeroS_ok S
  rw [encS_eq zeroS] at h
  simp only [frzL,D.frz,frz_encS]
  exact h)
structure CutL (T0:St) (p:D) (k:Int) (t:Nat) (b:Bool) (f:Fm) (T:St):Prop where
 st:T=T0
 s1:f 1=p
 s3:f 3=.v (.int .i64 k)
 sb:f t=.v (.bool b)
section
set_option maxRecDepth 200000
set_option maxHeartbeats 8000000
theorem sound14_d:∀ (k:Nat) (l:DLens),roomL k l=true→okL l→DPure Tryz.prog 66 [encL l] (.v (.bool (soundL k l))):=by
 intro k
 induction k with
 | zero=>intro l h;cases h
 | succ k ih =>
  intro l hroom hok
  have hr:=roomL_of hroom
  have ho:=(okL_eq l).1 hok
  have hbw:=(smallV hr.base).1
  have hkw:=(smallV hr.back).1
  have hbd:=DVal.depth_weight l.base.depth l.base (Nat.le_refl _)
  have htd:=DSch.depth_weight l.typ.depth l.typ (Nat.le_refl _)
  have htw:=(smallS hr.typ).1
  have fin:∀ {v w:Bool},v=w→(D.v (.bool v)).frz=.v (.bool w):=fun h=>by rw [h];rfl
  refine dpure_of_dwp mixed Tryz.func66 rfl (fun _ _=>by kernel_rfl) (rs:=[.tmp 2]) rfl (by kernel_rfl) trivial (fun S hS=>?_)
  by_cases h1:uOk l.kind=true
  case neg =>
   have hu:uOk l.kind=false:=by simpa using h1
   have he:soundL (k+1) l=false:=by rw [soundL,s1B,hu];rfl
   cases g:decide (l.kind<1) with
   | true =>
    (refine dd2 (encL_eq l) @g ?_)
    refine pendL ?_
    exact fin he.symm
   | false =>
    have g2:decide (l.kind > 10)=true:=by
     have:=of_decide_eq_false g
     rw [uOk,Bool.and_eq_false_iff,decide_eq_false_iff_not,decide_eq_false_iff_not] at hu
     exact decide_eq_true (by omega)
    (refine dd3 (encL_eq l) @g @g2 ?_)
    refine pendL ?_
    exact fin he.symm
  have hk:1≤l.kind∧l.kind≤10:=by simpa [uOk] using h1
  have g1:decide (l.kind<1)=false:=decide_eq_false (by omega)
  have g2:decide (l.kind > 10)=false:=decide_eq_false (by omega)
  (refine dd3 (encL_eq l) @g1 @g2 ?_)
  refine DCalls.of_pure (refName_d l.a ho.2.1) ?_
  generalize hX:St.add S _=T0
  have b0:T0.ob S.next=some (.box 47 (encL l).cells):=by rw [← hX];exact di1 (encL_eq l)
  have hs0:S.Sub T0:=by rw [← hX];exact (St.Sub.refl S).add hS _
  have hW0:T0.WF:=by rw [← hX];exact hS.add _
  clear hX
  cases hn:nameB l.a with
  | false =>
   (refine dd0 ?_)
   refine ⟨?_,hs0⟩
   refine fin ?_
   rw [soundL,s1B,hn,Bool.and_false,Bool.false_and]
  | true =>
  have e1:s1B l=true:=by rw [s1B,h1,hn];rfl
  (refine dd2 @b0 (encL_eq l) ?_)
  refine DCalls.of_pure (named_d l.kind) ?_
  (refine dd2 @b0 (encL_eq l) ?_)
  refine cut_guard (CutL T0 (.loc S.next 0) l.kind 43 (!s2B l)) rfl ?_ ?_
  case refine_2 =>
   cases c1:uB l.kind with
   | true =>
    (refine dd3 @b0 (encL_eq l) @c1 ?_)
    refine DCalls.of_pure (refName_d l.b ho.2.2.1) ?_
    cases c2:nameB l.b with
    | false =>
     (refine dd4 @b0 (encL_eq l) @c1 @c2 ?_)
     exact ⟨rfl,by exact di0,by exact di0,by exact di3 @s2B.eq_1 @c1 @c2⟩
    | true =>
     cases c3:l.a == l.b with
     | true =>
      (refine dd5 @b0 (encL_eq l) @c1 @c2 @c3 ?_)
      exact ⟨rfl,by exact di0,by exact di0,by (first | (simp (disch:=first | decide | omega | (simp only [nx];first | done | omega)) only [go_sem,s2B,c1,c2,c3,if_true,Bool.and_false];first | done | rfl) | rfl)⟩
     | false =>
      (refine dd5 @b0 (encL_eq l) @c1 @c2 @c3 ?_)
      refine DCalls.of_pure (named_d l.kind) ?_
      (refine dd5 @b0 (encL_eq l) @c1 @c2 @c3 ?_)
      exact ⟨rfl,by exact di0,by exact di0,by (first | (simp (disch:=first | decide | omega | (simp only [nx];first | done | omega)) only [go_sem,s2B,c1,c2,c3,if_true,Bool.and_true];first | done | rfl) | rfl)⟩
   | false =>
    (refine dd3 @b0 (encL_eq l) @c1 ?_)
    refine DCalls.of_pure (named_d l.kind) ?_
    (refine dd3 @b0 (encL_eq l) @c1 ?_)
    exact ⟨rfl,by exact di0,by exact di0,by (first | (simp (disch:=first | decide | omega | (simp only [nx];first | done | omega)) only [go_sem,s2B,c1,if_false,bne,Bool.false_eq_true];first | done | rfl) | rfl)⟩
  intro f T hC
  obtain rfl:=hC.st
  cases h2:s2B l with
  | false =>
   (refine dd2 @hC.sb @h2 ?_)
   refine ⟨?_,hs0⟩
   refine fin ?_
   rw [soundL,h2,Bool.false_and,Bool.and_false]
  | true =>
  (refine dd3 @hC.sb @h2 @hC.s3 ?_)
  refine DCalls.of_pure (typed14_d l.kind) ?_
  have q1:=hC.s1
  have q3:=hC.s3
  (refine dd2 @b0 (encL_eq l) ?_)
  refine cut_guard (CutL T (.loc S.next 0) l.kind 72 (!s3B l)) rfl ?_ ?_
  case refine_2 =>
   cases c1:uT l.kind with
   | true =>
    (refine dd5 @q1 @q3 @b0 (encL_eq l) @c1 ?_)
    rw [aggV_fold,aggS_fold]
    refine DCalls.of_pure (refFitsTop_d l.base l.typ ho.2.2.2.2.1 ho.2.2.2.1 (by omega) (by omega)) ?_
    cases c2:fitsTop l.base l.typ with
    | false =>
     (refine dd6 @q1 @q3 @b0 (encL_eq l) @c1 @c2 ?_)
     exact ⟨rfl,by exact di1 @q1,by exact di1 @q3,by (first | (simp (disch:=first | decide | omega | (simp only [nx];first | done | omega)) only [go_sem,s3B,c1,c2,if_true];first | done | rfl) | rfl)⟩
    | true =>
     (refine dd6 @q1 @q3 @b0 (encL_eq l) @c1 @c2 ?_)
     refine DCalls.of_pure (typed14_d l.kind) ?_
     (refine dd6 @q1 @q3 @b0 (encL_eq l) @c1 @c2 ?_)
     exact ⟨rfl,by exact di1 @q1,by exact di1 @q3,by (first | (simp (disch:=first | decide | omega | (simp only [nx];first | done | omega)) only [go_sem,s3B,c1,c2,if_true];first | done | rfl) | rfl)⟩
   | false =>
    (refine dd5 @q1 @q3 @b0 (encL_eq l) @c1 ?_)
    refine DCalls.of_pure (typed14_d l.kind) ?_
    (refine dd5 @q1 @q3 @b0 (encL_eq l) @c1 ?_)
    rw [aggS_fold]
    refine DCalls.of_pure (schSame0_d l.typ ho.2.2.2.1) ?_
    cases c2:eqB l.typ zeroS with
    | false =>
     (refine dd6 @q1 @q3 @b0 (encL_eq l) @c1 @c2 ?_)
     exact ⟨rfl,by exact di1 @q1,by exact di1 @q3,by (first | (simp (disch:=first | decide | omega | (simp only [nx];first | done | omega)) only [go_sem,s3B,c1,c2,if_false,Bool.false_eq_true,Bool.false_and];first | done | rfl) | rfl)⟩
    | true =>
     (refine dd6 @q1 @q3 @b0 (encL_eq l) @c1 @c2 ?_)
     rw [aggV_fold]
     refine DCalls.of_pure (valSame0_d l.base ho.2.2.2.2.1 (by omega)) ?_
     (refine dd6 @q1 @q3 @b0 (encL_eq l) @c1 @c2 ?_)
     exact ⟨rfl,by exact di1 @q1,by exact di1 @q3,by (first | (simp (disch:=first | decide | omega | (simp only [nx];first | done | omega)) only [go_sem,s3B,c1,c2,if_false,Bool.false_eq_true,Bool.true_and];first | done | rfl) | rfl)⟩
  intro f2 T2 hC2
  obtain rfl:=hC2.st
  clear hC q1 q3
  have q1:=hC2.s1
  have q3:=hC2.s3
  cases h3:s3B l with
  | false =>
   (refine dd2 @hC2.sb @h3 ?_)
   refine ⟨?_,hs0⟩
   refine fin ?_
   rw [soundL,h3,Bool.false_and,Bool.and_false,Bool.and_false]
  | true =>
  (refine dd3 @hC2.sb @h3 @q3 ?_)
  refine cut_guard (CutL T2 (.loc S.next 0) l.kind 87 (!s4B l)) rfl ?_ ?_
  case refine_2 =>
   cases c1:l.kind == 8 with
   | true =>
    have c1':(l.kind != 8)=false:=by rw [bne,c1];rfl
    (refine dd5 @q1 @q3 @b0 (encL_eq l) @c1' ?_)
    exact ⟨rfl,by exact di1 @q1,by exact di1 @q3,by exact di2 @s4B.eq_1 @c1⟩
   | false =>
    have c1':(l.kind != 8)=true:=by rw [bne,c1];rfl
    (refine dd5 @q1 @q3 @b0 (encL_eq l) @c1' ?_)
    rw [aggV_fold]
    refine DCalls.of_pure (valSame0_d l.back ho.2.2.2.2.2.1 (by omega)) ?_
    cases c2:eqB l.back zeroV0 with
    | false =>
     (refine dd6 @q1 @q3 @b0 (encL_eq l) @c1' @c2 ?_)
     exact ⟨rfl,by exact di1 @q1,by exact di1 @q3,by exact di3 @s4B.eq_1 @c1 @c2⟩
    | true =>
     have c3:decide ((l.pairs.length:Int) > 0) = !decide (l.pairs.length=0):=by
      rw [← decide_not]
      exact decide_eq_decide.2 (by omega)
     (refine dd7 @q1 @q3 @b0 (encL_eq l) @c1' @c2 @c3 ?_)
     exact ⟨rfl,by exact di1 @q1,by exact di1 @q3,by exact di3 @s4B.eq_1 @c1 @c2⟩
  intro f3 T3 hC3
  obtain rfl:=hC3.st
  clear hC2 q1 q3
  have q1:=hC3.s1
  have q3:=hC3.s3
  cases h4:s4B l with
  | false =>
   (refine dd2 @hC3.sb @h4 ?_)
   refine ⟨?_,hs0⟩
   refine fin ?_
   rw [soundL,h4,Bool.false_and,Bool.and_false,Bool.and_false,Bool.and_false]
  | true =>
  by_cases k8:l.kind=8
  ·have d1:(l.kind == 8)=true:=by simp [k8]
   have hs5:s5B l=(!decide (l.typ.kind > 4) && (scalarV l.back && (decide (l.pairs.length≤8) && l.pairs.all (fun p=>scalarV p.1 && fitsTop p.2 l.typ)))):=by rw [s5B,d1];rfl
   have hfin:soundL (k+1) l=(s5B l && decide (l.inner.length=0)):=by rw [soundL,e1,h2,h3,h4,if_pos (by omega)];rfl
   cases g3:decide (l.typ.kind > 4) with
   | true =>
    (refine dd8 @hC3.sb @h4 @q1 @q3 @b0 (encL_eq l) @d1 @g3 ?_)
    refine ⟨?_,hs0⟩
    refine fin ?_
    rw [hfin,hs5,g3];rfl
   | false =>
    (refine dd8 @hC3.sb @h4 @q1 @q3 @b0 (encL_eq l) @d1 @g3 ?_)
    rw [aggV_fold]
    refine DCalls.of_pure (scalar14_d l.back ho.2.2.2.2.2.1 (by omega)) ?_
    cases g4:scalarV l.back with
    | false =>
     (refine dd4 @q1 @q3 @b0 (encL_eq l) ?_)
     refine ⟨?_,hs0⟩
     refine fin ?_
     rw [hfin,hs5,g3,g4];rfl
    | true =>
     cases g5:decide ((l.pairs.length:Int) > 8) with
     | true =>
      have g5':decide (l.pairs.length≤8)=false:=by have:=of_decide_eq_true g5;exact decide_eq_false (by omega)
      (refine dd5 @q1 @q3 @b0 (encL_eq l) @g5 ?_)
      refine ⟨?_,hs0⟩
      refine fin ?_
      rw [hfin,hs5,g3,g4,g5'];rfl
     | false =>
      have g5':l.pairs.length≤8:=by have:=of_decide_eq_false g5;omega
      (refine dd5 @q1 @q3 @b0 (encL_eq l) @g5 ?_)
      (refine dloop_st (fun t=>List.contains [2,4,106,107,108,109,110,111,112,113,114,115,116,117,118,119,120,121,122,123,124,125,126,127,128,129,130,131,132] t) (by kernel_rfl) ?_ (l.pairs.length) (fun i f=>i≤l.pairs.length∧f 4=.v (.int .i64 ((i:Nat):Int))∧(∀ j (h:j<l.pairs.length),j<i→(scalarV l.pairs[j].1 && fitsTop l.pairs[j].2 l.typ)=true)) ?_ ?_;(exact wfA);(exact ⟨(by omega),(by exact di0),(fun j _ h=>absurd h (by omega))⟩);intro i g tn hn hT hg hI;obtain ⟨le,q4,hs⟩:=hI;have q1:=hg 1 rfl;have q3:=hg 3 rfl;simp (disch:=first | decide | omega | (simp only [nx];first | done | omega)) only [go_sem] at q1 q3;clear hg;have hn':=hn;try simp only [add_next,set_next,grow_next,leave_next,drop_next] at hn')
      have r1:g 1=.loc S.next 0:=q1.trans hC3.s1
      have r3:g 3=.v (.int .i64 l.kind):=q3.trans hC3.s3
      have hsT:S.Sub ⟨tn,T3.ob⟩:=⟨Nat.le_trans hs0.next hn,hs0.ob⟩
      by_cases hlt:i<l.pairs.length
      ·have b1:decide ((i:Int)<(l.pairs.length:Int))=true:=decide_eq_true (by omega)
       have w1:IntKind.i64.wrap ((i:Int)+1)=((i+1:Nat):Int):=IntWalk.i64_in _ ⟨by omega,by omega⟩
       have hget:=getD_map encPr l.pairs i hlt
       have hpo:=ho.2.2.2.2.2.2.1 _ (List.getElem_mem hlt)
       have hpg:=hr.prs _ (List.getElem_mem hlt)
       have hw1:=(smallV hpg.1).1
       have hw2:=(smallV hpg.2).1
       have hd2:=DVal.depth_weight l.pairs[i].2.depth l.pairs[i].2 (Nat.le_refl _)
       (refine dd6 @r1 @r3 @q4 @b0 (encL_eq l) @b1 ?_)
       refine ddraw_mk 20 (by kernel_rfl) ?_
       (refine dd9 @r1 @r3 @q4 @b0 (encL_eq l) @b1 @hget @hlt @encPr_eq ?_)
       rw [aggV_fold]
       refine dqgo_mk (scalar14_d l.pairs[i].1 hpo.1 (by omega)) ?_
       cases g6:scalarV l.pairs[i].1 with
       | false =>
        (refine dd10 @g6 @r1 @r3 @q4 @b0 (encL_eq l) @b1 @hget @hlt @encPr_eq ?_)
        refine ⟨?_,hsT⟩
        refine fin ?_
        have hall:l.pairs.all (fun p=>scalarV p.1 && fitsTop p.2 l.typ)=false:=List.all_eq_false.2 ⟨_,List.getElem_mem hlt,by rw [g6];simp⟩
        rw [hfin,hs5,hall];simp
       | true =>
        (refine dd10 @g6 @r1 @r3 @q4 @b0 (encL_eq l) @b1 @hget @hlt @encPr_eq ?_)
        rw [aggV_fold,aggS_fold]
        refine dqgo_mk (refFitsTop_d l.pairs[i].2 l.typ hpo.2 ho.2.2.2.1 (by omega) (by omega)) ?_
        cases g7:fitsTop l.pairs[i].2 l.typ with
        | false =>
         (refine dd11 @g6 @g7 @r1 @r3 @q4 @b0 (encL_eq l) @b1 @hget @hlt @encPr_eq ?_)
         refine ⟨?_,hsT⟩
         refine fin ?_
         have hall:l.pairs.all (fun p=>scalarV p.1 && fitsTop p.2 l.typ)=false:=List.all_eq_false.2 ⟨_,List.getElem_mem hlt,by rw [g6,g7];simp⟩
         rw [hfin,hs5,hall];simp
        | true =>
         (refine dd12 @g6 @g7 @r1 @r3 @q4 @b0 (encL_eq l) @b1 @hget @hlt @encPr_eq @w1 ?_)
         refine ⟨by omega,⟨hn,fun _ _ h=>h⟩,by omega,?_,fun j hj hji=>?_⟩
         ·exact di1 @w1
         ·by_cases e:j=i
          ·subst e;rw [g6,g7];rfl
          ·exact hs j hj (by omega)
      ·have b1:decide ((i:Int)<(l.pairs.length:Int))=false:=decide_eq_false (by omega)
       have d2:decide (l.kind<9)=true:=decide_eq_true (by omega)
       have p2:(((l.inner.length:Nat):Int) == 0)=decide (l.inner.length=0):=by rw [Bool.eq_iff_iff,beq_iff_eq,decide_eq_true_eq];omega
       (refine dd8 @r1 @r3 @q4 @b0 (encL_eq l) @b1 @d2 @p2 ?_)
       refine ⟨?_,hsT⟩
       refine fin ?_
       have hall:l.pairs.all (fun p=>scalarV p.1 && fitsTop p.2 l.typ)=true:=List.all_eq_true.2 fun x hx=>by
        obtain ⟨j,hj,rfl⟩:=List.getElem_of_mem hx
        exact hs j hj (by omega)
       rw [hfin,hs5,g3,g4,decide_eq_true g5',hall];rfl
  ·have d1:(l.kind == 8)=false:=by simp [k8]
   have hs5:s5B l=true:=by rw [s5B,d1];rfl
   by_cases k9:l.kind<9
   ·have d2:decide (l.kind<9)=true:=decide_eq_true k9
    have p2:(((l.inner.length:Nat):Int) == 0)=decide (l.inner.length=0):=by rw [Bool.eq_iff_iff,beq_iff_eq,decide_eq_true_eq];omega
    (refine dd9 @hC3.sb @h4 @q1 @q3 @b0 (encL_eq l) @d1 @d2 @p2 ?_)
    refine ⟨?_,hs0⟩
    refine fin ?_
    rw [soundL,e1,h2,h3,h4,hs5,if_pos k9];rfl
   ·have d2:decide (l.kind<9)=false:=decide_eq_false k9
    have hfin:soundL (k+1) l=(decide (l.inner.length=1) && l.inner.all (soundL k)):=by rw [soundL,e1,h2,h3,h4,hs5,if_neg k9];rfl
    by_cases h8:l.inner.length=1
    ·obtain ⟨x,hx⟩:=List.length_eq_one_iff.1 h8
     have hxm:x∈l.inner:=by rw [hx];exact List.mem_singleton.2 rfl
     have z1:(((1:Nat):Int) == 1)=true:=rfl
     (refine dd13 @hC3.sb @h4 @q1 @q3 @b0 (encL_eq l) @d1 @d2 @z1 @hx @List.map_cons.{0,0} @List.map_nil.{0,0} @List.length_singleton.{0} ?_)
     refine DCalls.of_pure (ih x (roomL_in hroom hxm) (okL_in hok hxm)) ?_
     (refine dd0 ?_)
     refine ⟨?_,hs0⟩
     refine fin ?_
     rw [hfin,hx];simp
    ·have z1:(((l.inner.length:Nat):Int) == 1)=false:=by rw [beq_eq_false_iff_ne];omega
     (refine dd9 @hC3.sb @h4 @q1 @q3 @b0 (encL_eq l) @d1 @d2 @z1 ?_)
     refine ⟨?_,hs0⟩
     refine fin ?_
     rw [hfin,decide_eq_false h8];rfl
end
theorem fits_kind {v:DVal} {s:DSch} (h:fitsTop v s=true):1≤s.kind:=by
 rw [fitsTop,Bool.and_eq_true,Bool.and_eq_true] at h
 have h2:=h.2.1
 rw [rightS,Bool.and_eq_true] at h2
 have h3:=h2.1
 unfold plainS at h3
 split at h3
 ·omega
 split at h3
 ·omega
 split at h3
 ·omega
 split at h3
 ·omega
 ·cases h3
theorem any_all {α:Type} (l:List α) (p q:α→Bool) (h:∀ x,p x = !q x):(!(l.any p))=l.all q:=by
 induction l with
 | nil=>rfl
 | cons x l ih=>rw [List.any_cons,List.all_cons,← ih,h];cases q x <;> cases l.any p <;> rfl
theorem head_eq (l:DLens):headL l=(s1B l && (s2B l && (s3B l && (s4B l && (s5B l && (uI l.kind || decide (l.inner.length=0))))))):=by
 cases hu:uOk l.kind with
 | false=>simp [headL,s1B,hu]
 | true =>
  have hk:1≤l.kind∧l.kind≤10:=by simpa [uOk] using hu
  have hp:(!(l.pairs.any (badP l)))=l.pairs.all (fun p=>scalarV p.1 && fitsTop p.2 l.typ):=any_all _ _ _ fun x=>by rw [badP,Bool.not_and]
  have hs:(fitsTop l.base l.typ && scaS l.typ)=(fitsTop l.base l.typ && !decide (l.typ.kind > 4)):=by
   cases hf:fitsTop l.base l.typ with
   | false=>rfl
   | true =>
    have:=fits_kind hf
    rw [Bool.true_and,Bool.true_and,scaS,decide_eq_true this,Bool.true_and,← decide_not]
    exact decide_eq_decide.2 (by omega)
  obtain h | h | h | h | h | h | h | h | h | h:l.kind=1∨l.kind=2∨l.kind=3∨l.kind=4∨l.kind=5∨l.kind=6∨l.kind=7∨l.kind=8∨l.kind=9∨l.kind=10:=by omega
  all_goals
   simp only [headL,zeroB,s1B,s2B,s3B,s4B,s5B,uB,uT,uK,uI,hu,typedB,pairedB,h,hp]
   try simp only [Int.reduceBEq,Bool.or_true,Bool.true_or,Bool.or_false,Bool.false_or,Bool.and_true,Bool.true_and,Bool.not_true,Bool.not_false,if_true,if_false,Bool.false_eq_true]
  case inr.inr.inr.inr.inr.inr.inr.inl =>
   rw [hs]
   cases nameB l.a <;> cases (l.b == []) <;> cases fitsTop l.base l.typ <;> cases decide (l.typ.kind > 4) <;> cases scalarV l.back <;> cases decide (l.pairs.length≤8) <;> cases l.pairs.all (fun p=>scalarV p.1 && fitsTop p.2 l.typ) <;> cases decide (l.inner.length=0) <;> rfl
  all_goals ac_rfl
theorem right_eq:∀ (n k:Nat) (l:DLens),roomL k l=true→rightL n l=(decide (depthL l≤n) && soundL k l)
 | 0,k,l,h=>by rw [rightL,depthL_eq,decide_eq_false (by omega)];rfl
 | n+1,0,l,h=>by cases h
 | n+1,k+1,l,h=>by
  have hd:decide (depthL l≤n+1)=l.inner.all (fun x=>decide (depthL x≤n)):=by
   rw [depthL_eq,Bool.eq_iff_iff,decide_eq_true_eq,List.all_eq_true]
   simp only [decide_eq_true_eq]
   rw [← depthLs_le]
   omega
  have hr:l.inner.all (rightL n)=(l.inner.all (fun x=>decide (depthL x≤n)) && l.inner.all (soundL k)):=by
   have:∀ is:List DLens,(∀ x∈is,roomL k x=true)→is.all (rightL n)=(is.all (fun x=>decide (depthL x≤n)) && is.all (soundL k)):=fun is=>by
    induction is with
    | nil=>intro _;rfl
    | cons x is ih =>
     intro hx
     rw [List.all_cons,List.all_cons,List.all_cons,ih fun y hy=>hx y (List.mem_cons_of_mem _ hy),right_eq n k x (hx x (List.mem_cons_self ..))]
     cases decide (depthL x≤n) <;> cases soundL k x <;> cases is.all (fun x=>decide (depthL x≤n)) <;> cases is.all (soundL k) <;> rfl
   exact this _ fun x hx=>roomL_in h hx
  rw [rightL,soundL,head_eq,hd,hr]
  cases hu:uOk l.kind with
  | false=>simp [s1B,hu]
  | true =>
   have hk:1≤l.kind∧l.kind≤10:=by simpa [uOk] using hu
   by_cases h9:l.kind<9
   ·have hi:uI l.kind=false:=by
     simp only [uI,Bool.or_eq_false_iff,beq_eq_false_iff_ne]
     omega
    rw [if_pos h9,hi]
    by_cases h0:l.inner.length=0
    ·have:l.inner=[]:=List.eq_nil_of_length_eq_zero h0
     rw [decide_eq_true h0,this]
     simp
    ·rw [decide_eq_false h0]
     simp
   ·have hi:uI l.kind=true:=by
     simp only [uI,Bool.or_eq_true,beq_iff_eq]
     omega
    rw [if_neg h9,hi]
    cases s1B l <;> cases s2B l <;> cases s3B l <;> cases s4B l <;> cases s5B l <;> cases decide (l.inner.length=1) <;> cases l.inner.all (fun x=>decide (depthL x≤n)) <;> cases l.inner.all (soundL k) <;> rfl
section
set_option maxRecDepth 200000
set_option maxHeartbeats 8000000
theorem right14_d (l:DLens) (hr:roomL 8 l=true) (hok:okL l):DPure Tryz.prog 50 [encL l] (.v (.bool (rightL 5 l))):=by
 have hd:=room_depth hr
 have e:=right_eq 5 8 l hr
 refine dpure_of_dwp mixed Tryz.func50 rfl (fun _ _=>by kernel_rfl) (rs:=[.tmp 2]) rfl (by kernel_rfl) trivial (fun S hS=>?_)
 (refine dd0 ?_)
 refine DCalls.of_pure (depth14_d 8 l hr (by omega)) ?_
 cases h:decide (depthL l≤5) with
 | false =>
  have b1:decide (((depthL l:Nat):Int)≤5)=false:=decide_eq_false (by have:=of_decide_eq_false h;omega)
  (refine dd1 @b1 ?_)
  refine pendL ?_
  rw [e,h];rfl
 | true =>
  have b1:decide (((depthL l:Nat):Int)≤5)=true:=decide_eq_true (by have:=of_decide_eq_true h;omega)
  (refine dd1 @b1 ?_)
  refine DCalls.of_pure (sound14_d 8 l hr hok) ?_
  (refine dd0 ?_)
  refine pendL ?_
  rw [e,h];rfl
end
theorem take_succ_getS {α:Type} {l:List α} {i:Nat} (h:i<l.length):l.take (i+1)=l.take i++[l[i]]:=List.take_succ_eq_append_getElem h
theorem wstS_mem {v:DSch} {x:Str} {p:DSch} (hm:x∈v.words) (hl:v.words.length≤v.parts.length):∀ i,i≤v.words.length→wstS v x p i=(true,v.words.take i,(v.parts.set (ixN v.words x) p).take i)
 | 0,_=>by
  have:(0:Int)≤ixI v.words x:=by rw [ixI,if_pos hm];omega
  simp [wstS,this]
 | i+1,hi=>by
  have ih:=wstS_mem (p:=p) hm hl i (by omega)
  have hlt:i<v.words.length:=by omega
  have hlp:i<v.parts.length:=by omega
  rw [wstS,if_neg (by rw [ih];simp),ih,getD_at hlt,take_succ_getS hlt,take_succ_getS (by rw [List.length_set];exact hlp)]
  have hq:wqS v p (ixI v.words x) i=(v.parts.set (ixN v.words x) p)[i]'(by rw [List.length_set];exact hlp):=by
   rw [wqS,ixI,if_pos hm,List.getElem_set]
   by_cases e:ixN v.words x=i
   ·rw [if_pos (by omega),if_pos e]
   ·rw [if_neg (by omega),if_neg e,getD_at hlp]
  rw [hq]
theorem wstS_new {v:DSch} {x:Str} {p:DSch} (hm:x ∉ v.words) (hl:v.words.length≤v.parts.length):∀ i,i≤v.words.length→wstS v x p i=(decide (gtN v.words x<i),insAt v.words x (gtN v.words x) i,insAt v.parts p (gtN v.words x) i)
 | 0,_=>by
  have h0:¬ (0:Int)≤ixI v.words x:=by rw [ixI,if_neg hm];omega
  rw [wstS,insAt_zero,insAt_zero,decide_eq_false h0,decide_eq_false (by omega)]
 | i+1,hi=>by
  have ih:=wstS_new (p:=p) hm hl i (by omega)
  have hlt:i<v.words.length:=by omega
  have hlp:i<v.parts.length:=by omega
  have hq:wqS v p (ixI v.words x) i=v.parts[i]:=by
   rw [wqS,ixI,if_neg hm,if_neg (by omega),getD_at hlp]
  rw [wstS,ih,getD_at hlt,hq]
  by_cases e:gtN v.words x<i
  ·rw [if_neg (by simp [e]),insAt_lt (by omega) hlt,insAt_lt (by omega) hlp,decide_eq_true e,decide_eq_true (show gtN v.words x<i+1 by omega)]
  ·cases hs:sLt x v.words[i] with
   | true =>
    have he:gtN v.words x=i:=by
     have h1:gtN v.words x≤i:=by
      rcases Nat.lt_or_ge i (gtN v.words x) with h | h
      ·exfalso
       have:=List.not_of_lt_findIdx (p:=fun s=>sLt x s) h
       rw [hs] at this
       exact absurd this (by simp)
      ·exact h
     omega
    rw [if_pos (by simp [e]),he,insAt_at2 hlt,insAt_at2 hlp];simp
   | false =>
    have he:gtN v.words x ≠ i:=fun e2=>by
     have hlt2:gtN v.words x<v.words.length:=by omega
     have h3:sLt x v.words[gtN v.words x]=true:=List.findIdx_getElem (w:=hlt2)
     simp only [e2] at h3
     rw [hs] at h3
     cases h3
    rw [if_neg (by simp),insAt_lt (fun h=>he h.symm) hlt,insAt_lt (fun h=>he h.symm) hlp,decide_eq_false e,decide_eq_false (show ¬ gtN v.words x<i+1 by omega)]
theorem refWithS_eq (v p:DSch) (x:Str):refWithS v x p=withS v x p:=by
 unfold refWithS withS
 cases hwh:wholeS v with
 | false=>rfl
 | true =>
  have hl:v.words.length≤v.parts.length:=by
   have:=hwh
   simp only [wholeS,Bool.and_eq_true,decide_eq_true_eq] at this
   exact this.2
  simp only [show (true=false)=False from by simp,if_false]
  by_cases hm:x∈v.words
  ·rw [wstS_mem hm hl _ (Nat.le_refl _),if_pos hm]
   simp only [if_true,List.take_length]
   congr 1
   have:v.parts.drop v.words.length=(v.parts.set (ixN v.words x) p).drop v.words.length:=by
    rw [List.drop_set_of_lt (ix_lt hm)]
   rw [this,List.take_append_drop]
  ·have hg:gtN v.words x≤v.words.length:=List.findIdx_le_length
   rw [wstS_new hm hl _ (Nat.le_refl _),if_neg hm]
   by_cases e:gtN v.words x<v.words.length
   ·have e':decide (gtN v.words x<v.words.length)=true:=decide_eq_true e
    simp only [e',if_true]
    unfold insAt
    rw [if_pos e,if_pos e,List.take_length]
    congr 1
    have h1:v.parts.drop (gtN v.words x)=(v.parts.take v.words.length).drop (gtN v.words x)++v.parts.drop v.words.length:=by
     have:=List.drop_append_of_le_length (l₁:=v.parts.take v.words.length) (l₂:=v.parts.drop v.words.length) (i:=gtN v.words x) (by rw [List.length_take];omega)
     rw [List.take_append_drop] at this
     exact this
    show _=v.parts.take (gtN v.words x)++[p]++v.parts.drop (gtN v.words x)
    rw [h1];simp only [List.append_assoc]
   ·have e':decide (gtN v.words x<v.words.length)=false:=decide_eq_false e
    have e2:gtN v.words x=v.words.length:=by omega
    simp only [e']
    rw [if_neg (by simp),if_neg (by simp)]
    unfold insAt atN
    rw [if_neg e,if_neg e,e2,List.take_length,List.drop_length,List.append_nil]
section
set_option maxRecDepth 200000
set_option maxHeartbeats 8000000
theorem refWithS_d (v p:DSch) (x:Str) (hw:v.weight≤100000):DPure Tryz.prog 69 [encS v,.v (sv x),encS p] (encS (withS v x p)):=by
 rw [← refWithS_eq]
 exact refWith_d v p x hw
theorem refWithoutS_d (v:DSch) (x:Str) (hw:v.weight≤100000):DPure Tryz.prog 70 [encS v,.v (sv x)] (encS (withoutS v x)):=by
 have hwt:=v.weight_eq
 have hpn:=sPartsLen v
 refine dpure_of_dwp mixed Tryz.func70 rfl (fun _ _=>by kernel_rfl) (rs:=[.cell 4 25]) rfl (by kernel_rfl) (closed_encS _) (fun S hS=>?_)
 (refine dd0 ?_)
 refine DCalls.of_pure (refAt_d v x (by omega)) ?_
 (refine dd0 ?_)
 refine DCalls.of_pure (refWholeS_d v) ?_
 cases hwh:wholeS v with
 | false =>
  (refine dd0 ?_)
  refine pendL ?_
  rw [withoutS,if_neg (fun h=>by rw [h.1] at hwh;cases hwh),frz_encS]
 | true =>
  by_cases hm:x∈v.words
  ·have hi:ixI v.words x=(ixN v.words x:Int):=by unfold ixI;rw [if_pos hm]
   have h1:=ix_lt hm
   have h2:v.words.length≤v.parts.length:=by
    simp only [wholeS,Bool.and_eq_true,decide_eq_true_eq] at hwh
    exact hwh.2
   have he:withoutS v x=v.ofFields (v.words.take (ixN v.words x)++v.words.drop (ixN v.words x+1)) (v.parts.take (ixN v.words x)++v.parts.drop (ixN v.words x+1)):=by rw [withoutS,if_pos ⟨hwh,hm⟩]
   rw [he,hi]
   generalize ixN v.words x=q at *
   have b1:decide ((q:Int)<0)=false:=decide_eq_false (by omega)
   have w1:IntKind.i64.wrap ((q:Int)+1)=((q+1:Nat):Int):=IntWalk.i64_in _ ⟨by omega,by omega⟩
   have heU:elT Tryz.prog 22=some 9:=by kernel_rfl
   have heV:elT Tryz.prog 23=some 25:=by kernel_rfl
   have hzU:szOf Tryz.prog 9=1:=by kernel_rfl
   have hbU:bytesOf Tryz.prog 9=16:=by kernel_rfl
   have wU:∀ l:List Str,∀ d∈l.map strD,d.width=szOf Tryz.prog 9:=fun l d hd=>by rw [hzU];exact wSs l d hd
   have wV:∀ l:List DSch,∀ d∈l.map encS,d.width=szOf Tryz.prog 25:=fun l d hd=>by rw [szSc];exact wScs l d hd
   have n1:(((v.words.map strD).length:Nat):Int)=(v.words.length:Int):=by rw [List.length_map]
   have f1:(∀ d,d∈List.map strD v.words→d.cells.length=1)=True:=eq_true fun d hd=>by obtain ⟨y,_,rfl⟩:=List.mem_map.1 hd;rfl
   have f2:(∀ d,d∈List.map encS v.parts→d.cells.length=3)=True:=eq_true fun d hd=>by obtain ⟨y,_,rfl⟩:=List.mem_map.1 hd;exact cells_encS y
   have g1:((q:Int)≤(v.words.length:Int))=True:=eq_true (by omega)
   have g2:((q:Int)≤(v.parts.length:Int))=True:=eq_true (by omega)
   have g3:(((q+1:Nat):Int)≤(v.words.length:Int))=True:=eq_true (by omega)
   have g4:(((q+1:Nat):Int)≤(v.parts.length:Int))=True:=eq_true (by omega)
   (refine dd1 @b1 ?_)
   refine ddraw_any (fun S'=>S'.ob S.next=some (.box 25 (encS v).cells)) 28 (by exact di0) (by kernel_rfl) ?_
   (have F:=(encS_eq v);refine stq F 0 ?_;refine stq F 1 ?_;refine stq F 2 ?_;refine stq F 3 ?_;refine stq F 4 ?_;refine stq F 5 ?_;clear F)
   (refine s_take 6 rfl (by kernel_rfl) (by kernel_rfl) (v:=.sl .no ((v.words.map strD).take q)) (fun S' hz=>dquietR_of (by (simp (disch:=first | decide | omega | (simp only [nx];first | done | omega)) only [go_sem,f1,g1,or_true,true_or];(repeat with_reducible refine aI ?_));first | done | rfl | omega)) ?_)
   (have F:=pk2 (encS_eq v) @w1;refine stq F 8 ?_;refine stq F 9 ?_;refine stq F 10 ?_;refine stq F 11 ?_;clear F)
   (refine s_take 12 rfl (by kernel_rfl) (by kernel_rfl) (v:=.sl .no ((v.words.map strD).drop (q+1))) (fun S' hz=>dquietR_of (by (simp (disch:=first | decide | omega | (simp only [nx];first | done | omega)) only [go_sem,f1,g3,or_true,true_or];(repeat with_reducible refine aI ?_));first | done | rfl | omega)) ?_)
   (have F:=(encS_eq v);refine stq F 14 ?_;refine stq F 15 ?_;refine stq F 16 ?_;refine stq F 17 ?_;clear F)
   (refine s_take 18 rfl (by kernel_rfl) (by kernel_rfl) (v:=.sl .no ((v.parts.map encS).take q)) (fun S' hz=>dquietR_of (by (simp (disch:=first | decide | omega | (simp only [nx];first | done | omega)) only [go_sem,f2,g2,or_true,true_or];(repeat with_reducible refine aI ?_));first | done | rfl | omega)) ?_)
   (have F:=pk2 (encS_eq v) @w1;refine stq F 20 ?_;refine stq F 21 ?_;refine stq F 22 ?_;refine stq F 23 ?_;clear F)
   (refine s_take 24 rfl (by kernel_rfl) (by kernel_rfl) (v:=.sl .no ((v.parts.map encS).drop (q+1))) (fun S' hz=>dquietR_of (by (simp (disch:=first | decide | omega | (simp only [nx];first | done | omega)) only [go_sem,f2,g4,or_true,true_or];(repeat with_reducible refine aI ?_));first | done | rfl | omega)) ?_)
   (refine s_one 7 ?_;(refine dd0 ?_))
   generalize hX:St.add (St.add S _) _=T0
   have u1:T0.ob S.next=some (.box 25 (encS v).cells):=by rw [← hX];exact di0
   have u2:T0.ob (S.next+1)=some (.box 25 [.v (.int .i64 0),.sl .full [],.sl .full []]):=by rw [← hX];exact di0
   have hW0:T0.WF:=by rw [← hX];exact (hS.add _).add _
   have hs0:S.Sub T0:=by rw [← hX];exact ((St.Sub.refl S).add hS _).add hS _
   have hn0:T0.next=S.next+2:=by rw [← hX];rfl
   clear hX
   have lt1:((v.words.map strD).take q).length=q:=by rw [List.length_take,List.length_map];omega
   have lt2:((v.words.map strD).drop (q+1)).length=v.words.length - (q+1):=by rw [List.length_drop,List.length_map]
   have lt3:((v.parts.map encS).take q).length=q:=by rw [List.length_take,List.length_map];omega
   have lt4:((v.parts.map encS).drop (q+1)).length=v.parts.length - (q+1):=by rw [List.length_drop,List.length_map]
   have ws1:∀ d∈(v.words.map strD).take q,d.width=szOf Tryz.prog 9:=fun d hd=>wU _ d (List.mem_of_mem_take hd)
   have ws2:∀ d∈(v.words.map strD).drop (q+1),d.width=szOf Tryz.prog 9:=fun d hd=>wU _ d (List.mem_of_mem_drop hd)
   have ws3:∀ d∈(v.parts.map encS).take q,d.width=szOf Tryz.prog 25:=fun d hd=>wV _ d (List.mem_of_mem_take hd)
   have ws4:∀ d∈(v.parts.map encS).drop (q+1),d.width=szOf Tryz.prog 25:=fun d hd=>wV _ d (List.mem_of_mem_drop hd)
   have step:∀ {T:St} {own:Own} {e:TypeId} {n:Nat},T.WF→S.Sub T→T.ob S.next=some (.box 25 (encS v).cells)→T.ob (S.next+1)=some (.box 25 [.v (.int .i64 0),.sl .full [],.sl .full []])→(∀ g,own=.row g→S.next+2≤g)→S.next+2≤T.next →
     (T.grow own e n).WF∧S.Sub (T.grow own e n)∧(T.grow own e n).ob S.next=some (.box 25 (encS v).cells)∧(T.grow own e n).ob (S.next+1)=some (.box 25 [.v (.int .i64 0),.sl .full [],.sl .full []])∧(T.grow own e n).ob T.next=some (.row e n)∧(T.grow own e n).next=T.next+1:=fun {T own e n} hW hs h1 h2 hg hn =>
    ⟨growR_WF hW,⟨by rw [grow_next];have:=hs.next;omega,fun j o hj=>growR_keep hW (hs.ob j o hj) fun g e=>by have:=hg g e;have:=hS.lt hj;omega⟩,growR_keep hW h1 fun g e=>by have:=hg g e;omega,growR_keep hW h2 fun g e=>by have:=hg g e;omega,growR_new,grow_next _ _ _ _⟩
   refine dapp_more heU (by kernel_rfl) (.inl rfl) (fun d hd=>by cases hd) ws1 (by simp only [List.length_nil];omega) (by rw [hbU];simp only [List.length_nil];omega) ?_
   obtain ⟨hW1,hs1,v1,v2,r1,m1⟩:=step (own:=.full) (e:=9) (n:=(([]:List D).length+((v.words.map strD).take q).length)) hW0 hs0 u1 u2 (fun g e=>by cases e) (by omega)
   generalize St.grow T0 _ _ _=T1 at *
   refine ⟨v1,?_⟩
   rw [List.nil_append]
   (refine s_one 13 ?_;(refine dd0 ?_))
   refine dapp_more heU (by kernel_rfl) (.inr ⟨_,rfl,by rw [r1,List.length_nil,Nat.zero_add]⟩) ws1 ws2 (by omega) (by rw [hbU];omega) ?_
   obtain ⟨hW2,hs2,v1,v2,r2,m2⟩:=step (own:=.row T0.next) (e:=9) (n:=(((v.words.map strD).take q).length+((v.words.map strD).drop (q+1)).length)) hW1 hs1 v1 v2 (fun g e=>by injection e with e;omega) (by omega)
   generalize St.grow T1 _ _ _=T2 at *
   refine ⟨v1,?_⟩
   (refine s_one 19 ?_;(refine dd0 ?_))
   refine dapp_more heV (by kernel_rfl) (.inl rfl) (fun d hd=>by cases hd) ws3 (by simp only [List.length_nil];omega) (by rw [bySc];simp only [List.length_nil];omega) ?_
   obtain ⟨hW3,hs3,v1,v2,r3,m3⟩:=step (own:=.full) (e:=25) (n:=(([]:List D).length+((v.parts.map encS).take q).length)) hW2 hs2 v1 v2 (fun g e=>by cases e) (by omega)
   generalize St.grow T2 _ _ _=T3 at *
   refine ⟨v1,?_⟩
   rw [List.nil_append]
   (refine s_one 25 ?_;(refine dd0 ?_))
   refine dapp_more heV (by kernel_rfl) (.inr ⟨_,rfl,by rw [r3,List.length_nil,Nat.zero_add]⟩) ws3 ws4 (by omega) (by rw [bySc];omega) ?_
   obtain ⟨hW4,hs4,v1,v2,r4,m4⟩:=step (own:=.row T2.next) (e:=25) (n:=(((v.parts.map encS).take q).length+((v.parts.map encS).drop (q+1)).length)) hW3 hs3 v1 v2 (fun g e=>by injection e with e;omega) (by omega)
   generalize St.grow T3 _ _ _=T4 at *
   refine ⟨v1,?_⟩
   (have F:=trivial;refine stq F 26 ?_;clear F)
   (refine s_one 27 ?_;(refine dd1 @v2 ?_))
   (refine s_done (by kernel_rfl) ?_;(refine dd0 ?_))
   refine ⟨?_,?_⟩
   ·rw [encS_eq (v.ofFields _ _)]
    simp only [D.frz,frzL,← List.map_take,← List.map_drop,← List.map_append,frz_strs,frz_mapS]
    rfl
   ·exact ⟨by show S.next≤T4.next;exact hs4.next,fun j o hj=>by
     have:=hS.lt hj
     show (if j=S.next+1 then _ else T4.ob j)=some o
     rw [if_neg (by omega)]
     exact hs4.ob j o hj⟩
  ·have b7:decide (ixI v.words x<0)=true:=by unfold ixI;rw [if_neg hm];decide
   (refine dd1 @b7 ?_)
   refine pendL ?_
   rw [withoutS,if_neg (fun h=>hm h.2),frz_encS]
end
def hasB (s:DSch) (x:Str):Bool:=s.kind == 5 && decide (x∈s.words)
noncomputable def swT (tg:DLens→DSch→DSch × Bool) (l:DLens) (s a:DSch) (ok:Bool):Option DSch :=
 if l.kind=1 then (if (ok && !hasB s l.b)=true then some (withS (withoutS s l.a) l.b a) else none)
 else if l.kind=2 then (if ok=true then none else some (withS s l.a l.typ))
 else if l.kind=3 then (if (ok && eqB a l.typ)=true then some (withoutS s l.a) else none)
 else if l.kind=4 then (if (ok && (hasB a l.b && !hasB s l.b))=true then some (withS (withS s l.b ((fieldS a l.b).getD zeroS)) l.a (withoutS a l.b)) else none)
 else if l.kind=5 then (if (ok && (hasB s l.b && (a.kind == 5 && !hasB a l.b)))=true then some (withoutS (withS s l.a (withS a l.b ((fieldS s l.b).getD zeroS))) l.b) else none)
 else if l.kind=6 then (if ok=true then some (withS s l.a (.mk 6 [] [a])) else none)
 else if l.kind=7 then (if (ok && a.kind == 6)=true then some (withS s l.a (a.parts.headD zeroS)) else none)
 else if l.kind=8 then (if (ok && (!decide (a.kind > 4) && (fitsTop l.back a && l.pairs.all (fun p=>fitsTop p.1 a))))=true then some (withS s l.a l.typ) else none)
 else if l.kind=9 then (if (ok && (tg (l.inner.headD zeroL) a).2)=true then some (withS s l.a (tg (l.inner.headD zeroL) a).1) else none)
 else (if (ok && (a.kind == 6 && (tg (l.inner.headD zeroL) (a.parts.headD zeroS)).2))=true then some (withS s l.a (.mk 6 [] [(tg (l.inner.headD zeroL) (a.parts.headD zeroS)).1])) else none)
noncomputable def refT : Nat → DLens → DSch → DSch × Bool
  | 0, _, _ => (zeroS, false)
  | n + 1, l, s =>
    if s.kind = 5 ∧ rightS 5 s = true then
      (match swT (refT n) l s ((fieldS s l.a).getD zeroS) (fieldS s l.a).isSome with
       | some t => if rightS 5 t = true then (t, true) else (zeroS, false)
       | none => (zeroS, false))
    else (zeroS, false)
theorem refT_no {n:Nat} {l:DLens} {s:DSch} (h:swT (refT n) l s ((fieldS s l.a).getD zeroS) (fieldS s l.a).isSome=none):refT (n+1) l s=(zeroS,false):=by
 rw [refT,h];split <;> rfl
theorem dIf_cutBk {P:Program} {f:Fm} {S:St} {Q:DQ} {b:Bool} {x y:Code} {id:Nat} {k:Fm→St→Prop} (J:Fm→St→Prop) (h:dIf (.v (.bool b)) (dwpF P x (DQ.block id (DQ.then J Q)) f S) (dwpF P y (DQ.block id (DQ.then J Q)) f S)) (hk:∀ f' S',J f' S'→k f' S'):dIf (.v (.bool b)) (dwpF P x (DQ.block id (DQ.then k Q)) f S) (dwpF P y (DQ.block id (DQ.then k Q)) f S):=by
 have key:∀ c:Code,dwp P c (DQ.block id (DQ.then J Q)) f S→dwp P c (DQ.block id (DQ.then k Q)) f S:=fun c hc=>dwp_mono c (fun e f' S' hq=>by
  cases e with
  | normal=>exact hk _ _ hq
  | exit i =>
   simp only [DQ.block] at *
   cases hi:Nat.beq i id with
   | true=>rw [hi] at hq;exact hk _ _ hq
   | false=>rw [hi] at hq;exact hq
  | ret=>exact hq) hc
 exact ⟨fun e=>key x (h.1 e),fun e=>key y (h.2 e)⟩
theorem dcalls_argEq1 {P:Program} {g:FuncId} {args args':List D} {S:St} {K:D→St→Prop} (e:frzL args=args') (h:DCalls P g args' S K):DCalls P g args S K:=dcalls_argfz (e ▸ h)
theorem ite_some {c:Prop} [Decidable c] {x t:DSch} (h:(if c then some x else none)=some t):c∧x=t:=by
 by_cases hc:c
 ·rw [if_pos hc] at h;injection h with h;exact ⟨hc,h⟩
 ·rw [if_neg hc] at h;cases h
theorem swT_wt {tg:DLens→DSch→DSch × Bool} {l:DLens} {s a t:DSch} {ok:Bool} (hl:okL l) (ht:Wt l.typ 300) (hs:Wt s 42129) (ha:Wt a 42129) (h7:ok=true→a.kind=6→Wt (a.parts.headD zeroS) 42129)
  (h9:l.kind=9→Wt (tg (l.inner.headD zeroL) a).1 42129) (h10:¬ l.kind≤9→ok=true→a.kind=6→Wt (tg (l.inner.headD zeroL) (a.parts.headD zeroS)).1 42129) (hk:1≤l.kind) (h:swT tg l s a ok=some t):Wt t 200000:=by
 have ho:=(okL_eq l).1 hl
 have oa:=ho.2.1
 have ob:=ho.2.2.1
 have fb:=field_wt l.b ha (by omega)
 have fs:=field_wt l.b hs (by omega)
 unfold swT at h
 by_cases k1:l.kind=1
 ·rw [if_pos k1] at h
  obtain ⟨_,rfl⟩:=ite_some h
  exact (withS_wt (withoutS_wt hs (by omega)) ha ob (by omega)).le (by omega)
 rw [if_neg k1] at h
 by_cases k2:l.kind=2
 ·rw [if_pos k2] at h
  cases ok with
  | true=>cases h
  | false=>injection h with h;subst h;exact (withS_wt hs ht oa (by omega)).le (by omega)
 rw [if_neg k2] at h
 by_cases k3:l.kind=3
 ·rw [if_pos k3] at h
  obtain ⟨_,rfl⟩:=ite_some h
  exact (withoutS_wt hs (by omega)).le (by omega)
 rw [if_neg k3] at h
 by_cases k4:l.kind=4
 ·rw [if_pos k4] at h
  obtain ⟨_,rfl⟩:=ite_some h
  exact (withS_wt (withS_wt hs fb ob (by omega)) (withoutS_wt ha (by omega)) oa (by omega)).le (by omega)
 rw [if_neg k4] at h
 by_cases k5:l.kind=5
 ·rw [if_pos k5] at h
  obtain ⟨_,rfl⟩:=ite_some h
  exact (withoutS_wt (withS_wt hs (withS_wt ha fs ob (by omega)) oa (by omega)) (by omega)).le (by omega)
 rw [if_neg k5] at h
 by_cases k6:l.kind=6
 ·rw [if_pos k6] at h
  obtain ⟨_,rfl⟩:=ite_some h
  exact (withS_wt hs (list1_wt ha (by omega)) oa (by omega)).le (by omega)
 rw [if_neg k6] at h
 by_cases k7:l.kind=7
 ·rw [if_pos k7] at h
  obtain ⟨hc,rfl⟩:=ite_some h
  rw [Bool.and_eq_true,beq_iff_eq] at hc
  exact (withS_wt hs (h7 hc.1 hc.2) oa (by omega)).le (by omega)
 rw [if_neg k7] at h
 by_cases k8:l.kind=8
 ·rw [if_pos k8] at h
  obtain ⟨_,rfl⟩:=ite_some h
  exact (withS_wt hs ht oa (by omega)).le (by omega)
 rw [if_neg k8] at h
 by_cases k9:l.kind=9
 ·rw [if_pos k9] at h
  obtain ⟨_,rfl⟩:=ite_some h
  exact (withS_wt hs (h9 k9) oa (by omega)).le (by omega)
 rw [if_neg k9] at h
 obtain ⟨hc,rfl⟩:=ite_some h
 rw [Bool.and_eq_true,Bool.and_eq_true,beq_iff_eq] at hc
 exact (withS_wt hs (list1_wt (h10 (by omega) hc.1 hc.2.1) (by omega)) oa (by omega)).le (by omega)
theorem refT_wt:∀ (n k:Nat) (l:DLens) (d:Nat) (s:DSch),Lo k n l→d≤5→(rightS d s=true∨s.kind ≠ 5)→okS s→s.weight≤42129→Wt (refT n l s).1 42129:=by
 intro n
 induction n with
 | zero=>intro k l d s hl;exact absurd hl.right (by simp [rightL])
 | succ n ih =>
  intro k l d s hl hd hr hsk hsw
  rw [refT]
  split
  ·rename_i h5
   have hr':rightS d s=true:=hr.resolve_right (fun h=>h h5.1)
   have hA:=field_wt l.a (⟨hsk,hsw⟩:Wt s 42129) (by omega)
   have hAd:(fieldS s l.a).isSome=true→∃ e,e+1≤5∧rightS e ((fieldS s l.a).getD zeroS)=true:=fun hf=>by
    cases d with
    | zero=>cases hr'
    | succ e=>exact ⟨e,hd,field_right hr' hf⟩
   have hAn:(fieldS s l.a).isSome=false→(fieldS s l.a).getD zeroS=zeroS:=fun hf=>by
    cases h:fieldS s l.a with
    | none=>rfl
    | some x=>rw [h] at hf;cases hf
   generalize (fieldS s l.a).isSome=ok at *
   generalize (fieldS s l.a).getD zeroS=a at *
   have h7:ok=true→a.kind=6→∃ e,e+1≤4∧rightS e (a.parts.headD zeroS)=true∧Wt (a.parts.headD zeroS) 42129:=fun h0 h6=>by
    obtain ⟨e,he,hra⟩:=hAd h0
    cases e with
    | zero=>cases hra
    | succ e =>
     have hra':=hra
     rw [rightS] at hra'
     simp only [Bool.and_eq_true,List.all_eq_true] at hra'
     have hm:=headS_mem ((plainS_len hra'.1).2.2.1 h6)
     exact ⟨e,by omega,hra'.2 _ hm,((okS_eq a).1 hA.1).2.2.2.2 _ hm,by have:=DSch.weight_part hm;have:=hA.2;omega⟩
   cases hsw2:swT (refT n) l s a ok with
   | none=>exact zeroS_wt _ (by omega)
   | some t =>
    have hw:=swT_wt hl.ok hl.typ ⟨hsk,hsw⟩ hA (fun h0 h6=>(h7 h0 h6).elim fun e h=>h.2.2) (fun k9=>by
     obtain ⟨k',hi,_⟩:=hl.inner (by rw [uI,k9];rfl)
     cases ok with
     | true=>obtain ⟨e,he,hra⟩:=hAd rfl;exact ih k' _ e a hi (by omega) (.inl hra) hA.1 hA.2
     | false=>exact ih k' _ 5 a hi (Nat.le_refl _) (.inr (by rw [hAn rfl];decide)) hA.1 hA.2) (fun k9 h0 h6=>by
     have hk:=hl.kind
     obtain ⟨k',hi,_⟩:=hl.inner (by rw [uI];simp;omega)
     obtain ⟨e,he,hra,hw⟩:=h7 h0 h6
     exact ih k' _ e _ hi (by omega) (.inl hra) hw.1 hw.2) hl.kind.1 hsw2
    show Wt (if rightS 5 t=true then (t,true) else (zeroS,false)).1 42129
    split
    ·rename_i h9
     exact ⟨hw.1,Nat.le_trans (rightS_wB 5 t h9) (wB_le5 (Nat.le_refl _))⟩
    ·exact zeroS_wt _ (by omega)
  ·exact zeroS_wt _ (by omega)
def zSc:Ob:=.box 25 [.v (.int .i64 0),.sl .full [],.sl .full []]
section
set_option maxRecDepth 200000
set_option maxHeartbeats 8000000
theorem has14_d (s:DSch) (x:Str) (hw:s.weight≤1000000):DPure Tryz.prog 68 [encS s,.v (sv x)] (.v (.bool (hasB s x))):=by
 refine dpure_of_dwp mixed Tryz.func68 rfl (fun _ _=>by kernel_rfl) (rs:=[.tmp 4]) rfl (by kernel_rfl) trivial (fun S hS=>?_)
 cases h:s.kind == 5 with
 | false =>
  (refine dd2 (encS_eq s) @h ?_)
  refine pendL ?_
  rw [hasB,h];rfl
 | true =>
  have e:decide (ixI s.words x ≥ 0)=decide (x∈s.words):=by
   unfold ixI
   by_cases hm:x∈s.words
   ·rw [if_pos hm,decide_eq_true hm];exact decide_eq_true (by omega)
   ·rw [if_neg hm,decide_eq_false hm];rfl
  (refine dd2 (encS_eq s) @h ?_)
  rw [aggS_fold]
  refine DCalls.of_pure (refAt_d s x hw) ?_
  (refine dd1 @e ?_)
  refine pendL ?_
  rw [hasB,h];rfl
theorem target14_d:∀ (n k:Nat) (l:DLens) (d:Nat) (s:DSch),Lo k n l→d≤5→(rightS d s=true∨s.kind ≠ 5)→okS s→s.weight≤42129→DPure Tryz.prog 51 [encL l,encS s] (tupBs (refT n l s)):=by
 intro n
 induction n with
 | zero=>intro k l d s hl;exact absurd hl.right (by simp [rightL])
 | succ n ih =>
  intro k l d s hl hd hr hsk hsw
  have ho:=(okL_eq l).1 hl.ok
  have fin:∀ {x:DSch} {y:D} {b c:Bool} {r:DSch × Bool},r=(x,c)→b=c→y.frz=encS x→(D.tup [y,.v (.bool b)]).frz=tupBs r:=fun h h2 h3=>by rw [h,h2];simp only [D.frz,frzL,h3,tupBs]
  have fz0:(D.agg [.v (.int .i64 0),.sl .full [],.sl .full []]).frz=encS zeroS:=by rw [encS_eq zeroS];rfl
  refine dpure_of_dwp mixed Tryz.func51 rfl (fun _ _=>by kernel_rfl) (rs:=[.cell 4 25,.tmp 5]) rfl (by kernel_rfl) (tupBs_cl _) (fun S hS=>?_)
  cases h5:s.kind != 5 with
  | true =>
   have he:refT (n+1) l s=(zeroS,false):=by rw [refT,if_neg (fun h=>by rw [h.1] at h5;cases h5)]
   (refine dd3 (encL_eq l) (encS_eq s) @h5 ?_)
   refine pendL ?_
   exact fin he rfl fz0
  | false =>
  have k5:s.kind=5:=by simpa using h5
  have hr':rightS d s=true:=hr.resolve_right (fun h=>h k5)
  have hr5:=rightS_le hr' hd
  have hsd:=DSch.depth_weight s.depth s (Nat.le_refl _)
  (refine dd3 (encL_eq l) (encS_eq s) @h5 ?_)
  rw [aggS_fold]
  refine DCalls.of_pure (refSchRight_d s hsk (by omega)) ?_
  (refine dd1 @hr5 ?_)
  rw [aggS_fold]
  refine DCalls.of_pure (refFieldS_d s l.a hsk (by omega)) ?_
  (refine dd1 @tupS.eq_1 ?_)
  have hA:=field_wt l.a (⟨hsk,hsw⟩:Wt s 42129) (by omega)
  have hAd:(fieldS s l.a).isSome=true→∃ e,d=e+1∧rightS e ((fieldS s l.a).getD zeroS)=true:=fun hf=>by
   cases d with
   | zero=>cases hr'
   | succ e=>exact ⟨e,rfl,field_right hr' hf⟩
  have hAn:(fieldS s l.a).isSome=false→(fieldS s l.a).getD zeroS=zeroS:=fun hf=>by
   cases h:fieldS s l.a with
   | none=>rfl
   | some x=>rw [h] at hf;cases hf
  have hnone:swT (refT n) l s ((fieldS s l.a).getD zeroS) (fieldS s l.a).isSome=none→refT (n+1) l s=(zeroS,false):=fun h=>refT_no h
  have hsome:∀ {t:DSch},swT (refT n) l s ((fieldS s l.a).getD zeroS) (fieldS s l.a).isSome=some t→refT (n+1) l s=if rightS 5 t=true then (t,true) else (zeroS,false):=fun {t} h=>by
   rw [refT,if_pos ⟨k5,hr5⟩,h]
  generalize hok:(fieldS s l.a).isSome=ok at *
  generalize hag:(fieldS s l.a).getD zeroS=a at *
  generalize hX:St.add (St.set (St.add (St.set (St.add (St.add (St.add (St.add S _) _) _) _) _ _) _) _ _) _=T0
  have u2:T0.ob S.next=some (.box 47 (encL l).cells):=by rw [← hX];exact di1 (encL_eq l)
  have u3:T0.ob (S.next+1)=some (.box 25 (encS s).cells):=by rw [← hX];exact di1 (encS_eq s)
  have u4:T0.ob (S.next+1+1)=some zSc:=by rw [← hX];exact di1 @zSc.eq_1
  have u6:T0.ob (S.next+1+1+1)=some zSc:=by rw [← hX];exact di1 @zSc.eq_1
  have u7:T0.ob (S.next+1+1+1+1)=some (.box 25 (encS a).cells):=by rw [← hX];exact di0
  have u9:T0.ob (S.next+1+1+1+1+1)=some zSc:=by rw [← hX];exact di1 @zSc.eq_1
  have hW0:T0.WF:=by rw [← hX];exact wfA
  have hs0:S.Sub T0:=by rw [← hX];exact (((((((St.Sub.refl S).add hS _).add hS _).add hS _).add hS _).set hS (by omega) _).add hS _).set hS (by omega) _ |>.add hS _
  have hn0:T0.next=S.next+6:=by rw [← hX];rfl
  clear hX
  refine dIf_cutBk (fun f T=>f 4=.loc (S.next+1+1) 0∧f 6=.loc (S.next+1+1+1) 0∧f 9=.loc (S.next+1+1+1+1+1) 0∧S.Sub T∧T.WF∧T.ob (S.next+1+1)=some zSc∧T.ob (S.next+1+1+1)=some zSc∧∃ t,swT (refT n) l s a ok=some t∧Wt t 200000∧T.ob (S.next+1+1+1+1+1)=some (.box 25 (encS t).cells)) ?_ ?_
  ·have hf4:∀ o:Ob,S.Sub (T0.set (S.next+1+1) o):=fun o=>hs0.set hS (by omega) _
   have hs9:∀ o:Ob,S.Sub (T0.set (S.next+1+1+1+1+1) o):=fun o=>hs0.set hS (by omega) _
   have hW9:∀ o:Ob,(T0.set (S.next+1+1+1+1+1) o).WF:=fun o=>hW0.set (by omega) _
   have hT9:∀ t:DSch,(T0.set (S.next+1+1+1+1+1) (.box 25 (encS t).cells)).ob (S.next+1+1)=some zSc∧(T0.set (S.next+1+1+1+1+1) (.box 25 (encS t).cells)).ob (S.next+1+1+1)=some zSc∧(T0.set (S.next+1+1+1+1+1) (.box 25 (encS t).cells)).ob (S.next+1+1+1+1+1)=some (.box 25 (encS t).cells):=fun t=>⟨by rw [set_ob,if_neg (by omega)];exact u4,by rw [set_ob,if_neg (by omega)];exact u6,by rw [set_ob,if_pos rfl]⟩
   have hsw2:Wt s 42129:=⟨hsk,hsw⟩
   have htw:Wt l.typ 300:=hl.typ
   have hlt:=htw.2
   have ha2:=hA.2
   have v4:=u4
   have v6:=u6
   have v9:=u9
   unfold zSc at v4 v6 v9
   by_cases k1:l.kind=1
   ·have b1:(l.kind == 1)=true:=by simp [k1]
    have e:∀ ok,swT (refT n) l s a ok=if (ok && !hasB s l.b)=true then some (withS (withoutS s l.a) l.b a) else none:=fun ok=>by rw [swT,if_pos k1]
    cases hk0:ok with
    | false =>
     (refine dd4 @b1 @hk0 @v4 @v6 ?_)
     exact ⟨fin (hnone (by rw [e,hk0];rfl)) rfl fz0,hf4 _⟩
    | true =>
     (refine dd5 @b1 @hk0 @u3 @u2 (encL_eq l) ?_)
     refine DCalls.of_pure (has14_d s l.b (by omega)) ?_
     cases hh:hasB s l.b with
     | true =>
      (refine dd3 @hh @v4 @v6 ?_)
      exact ⟨fin (hnone (by rw [e,hk0,hh];rfl)) rfl fz0,hf4 _⟩
     | false =>
      (refine dd1 @hh ?_)
      refine ddraw_mk 8 (by kernel_rfl) ?_
      (refine dd4 @u2 @u3 @u7 (encL_eq l) ?_)
      refine dqgo_mk (refWithoutS_d s l.a (by omega)) ?_
      (refine dd4 @u2 @u3 @u7 (encL_eq l) ?_)
      have h1:=withoutS_wt (x:=l.a) hsw2 (by omega)
      refine dqgo_mk (refWithS_d (withoutS s l.a) a l.b (by have:=h1.2;omega)) ?_
      (refine dd1 @v9 ?_)
      exact ⟨hs9 _,hW9 _,u4,u6,_,by rw [e,hh];rfl,(withS_wt h1 hA ho.2.2.1 (by omega)).le (by omega),rfl⟩
   have b1:(l.kind == 1)=false:=by simp [k1]
   by_cases k2:l.kind=2
   ·have b2:(l.kind == 2)=true:=by simp [k2]
    have e:∀ ok,swT (refT n) l s a ok=if ok=true then none else some (withS s l.a l.typ):=fun ok=>by rw [swT,if_neg k1,if_pos k2]
    cases hk0:ok with
    | true =>
     (refine dd5 @b1 @b2 @hk0 @v4 @v6 ?_)
     exact ⟨fin (hnone (by rw [e,hk0];rfl)) rfl fz0,hf4 _⟩
    | false =>
     (refine dd6 @b1 @b2 @hk0 @u3 @u2 (encL_eq l) ?_)
     rw [aggS_fold]
     refine DCalls.of_pure (refWithS_d s l.typ l.a (by omega)) ?_
     (refine dd1 @v9 ?_)
     exact ⟨hs9 _,hW9 _,u4,u6,_,by rw [e];rfl,(withS_wt hsw2 htw ho.2.1 (by omega)).le (by omega),rfl⟩
   have b2:(l.kind == 2)=false:=by simp [k2]
   by_cases k3:l.kind=3
   ·have b3:(l.kind == 3)=true:=by simp [k3]
    have e:∀ ok,swT (refT n) l s a ok=if (ok && eqB a l.typ)=true then some (withoutS s l.a) else none:=fun ok=>by rw [swT,if_neg k1,if_neg k2,if_pos k3]
    cases hk0:ok with
    | false =>
     (refine dd6 @b1 @b2 @b3 @hk0 @v4 @v6 ?_)
     exact ⟨fin (hnone (by rw [e,hk0];rfl)) rfl fz0,hf4 _⟩
    | true =>
     (refine dd7 @b1 @b2 @b3 @hk0 @u7 @u2 (encL_eq l) ?_)
     rw [aggS_fold]
     refine DCalls.of_pure (refSameS_d a l.typ hA.1 htw.1) ?_
     cases hh:eqB a l.typ with
     | false =>
      (refine dd3 @hh @v4 @v6 ?_)
      exact ⟨fin (hnone (by rw [e,hk0,hh];rfl)) rfl fz0,hf4 _⟩
     | true =>
      (refine dd4 @hh @u2 @u3 (encL_eq l) ?_)
      refine DCalls.of_pure (refWithoutS_d s l.a (by omega)) ?_
      (refine dd1 @v9 ?_)
      exact ⟨hs9 _,hW9 _,u4,u6,_,by rw [e,hh];rfl,(withoutS_wt hsw2 (by omega)).le (by omega),rfl⟩
   have b3:(l.kind == 3)=false:=by simp [k3]
   by_cases k4:l.kind=4
   ·have b4:(l.kind == 4)=true:=by simp [k4]
    have e:∀ ok,swT (refT n) l s a ok=if (ok && (hasB a l.b && !hasB s l.b))=true then some (withS (withS s l.b ((fieldS a l.b).getD zeroS)) l.a (withoutS a l.b)) else none:=fun ok=>by rw [swT,if_neg k1,if_neg k2,if_neg k3,if_pos k4]
    cases hk0:ok with
    | false =>
     (refine dd7 @b1 @b2 @b3 @b4 @hk0 @v4 @v6 ?_)
     exact ⟨fin (hnone (by rw [e,hk0];rfl)) rfl fz0,hf4 _⟩
    | true =>
    (refine dd8 @b1 @b2 @b3 @b4 @hk0 @u7 @u2 (encL_eq l) ?_)
    refine DCalls.of_pure (has14_d a l.b (by omega)) ?_
    cases hh:hasB a l.b with
    | false =>
     (refine dd3 @hh @v4 @v6 ?_)
     exact ⟨fin (hnone (by rw [e,hk0,hh];rfl)) rfl fz0,hf4 _⟩
    | true =>
     (refine dd4 @hh @u3 @u2 (encL_eq l) ?_)
     refine DCalls.of_pure (has14_d s l.b (by omega)) ?_
     cases hg:hasB s l.b with
     | true =>
      (refine dd3 @hg @v4 @v6 ?_)
      exact ⟨fin (hnone (by rw [e,hk0,hh,hg];rfl)) rfl fz0,hf4 _⟩
     | false =>
      (refine dd4 @hg @u7 @u2 (encL_eq l) ?_)
      refine DCalls.of_pure (refFieldS_d a l.b hA.1 (by omega)) ?_
      have hX:=field_wt l.b hA (by omega)
      (refine dd1 @tupS.eq_1 ?_)
      generalize (fieldS a l.b).getD zeroS=x at e hX ⊢
      generalize hY:St.set (St.add T0 _) _ _=T1
      have h01:T0.Sub T1:=by rw [← hY];exact ((St.Sub.refl T0).add hW0 _).set hW0 (Nat.le_refl _) _
      have hW1:T1.WF:=by rw [← hY];exact (hW0.add _).set (Nat.lt_succ_self _) _
      have hx:T1.ob T0.next=some (.box 25 (encS (x)).cells):=by rw [← hY];exact di0
      clear hY
      have w2:=h01.ob _ _ u2
      have w3:=h01.ob _ _ u3
      have w7:=h01.ob _ _ u7
      have w9:=h01.ob _ _ v9
      have z4:=h01.ob _ _ u4
      have z6:=h01.ob _ _ u6
      have h1n:=h01.next
      have hs19:∀ o:Ob,S.Sub (T1.set (S.next+1+1+1+1+1) o):=fun o=>(hs0.trans h01).set hS (by omega) _
      have hW19:∀ o:Ob,(T1.set (S.next+1+1+1+1+1) o).WF:=fun o=>hW1.set (by omega) _
      have hY1:=withoutS_wt (x:=l.b) hA (by omega)
      have hY2:=withS_wt hsw2 hX ho.2.2.1 (by omega)
      refine ddraw_mk 12 (by kernel_rfl) ?_
      (refine dd5 @w2 @w3 @w7 @hx (encL_eq l) ?_)
      refine dqgo_mk (refWithS_d s x l.b (by omega)) ?_
      (refine dd5 @w2 @w3 @w7 @hx (encL_eq l) ?_)
      refine dqgo_mk (refWithoutS_d a l.b (by omega)) ?_
      (refine dd5 @w2 @w3 @w7 @hx (encL_eq l) ?_)
      refine dqgo_mk (refWithS_d _ _ l.a (by have:=hY2.2;omega)) ?_
      (refine dd1 @w9 ?_)
      exact ⟨hs19 _,hW19 _,z4,z6,_,by rw [e,hh,hg];rfl,(withS_wt hY2 hY1 ho.2.1 (by omega)).le (by omega),rfl⟩
   have b4:(l.kind == 4)=false:=by simp [k4]
   by_cases k5:l.kind=5
   ·have b5:(l.kind == 5)=true:=by simp [k5]
    have e:∀ ok,swT (refT n) l s a ok=if (ok && (hasB s l.b && (a.kind == 5 && !hasB a l.b)))=true then some (withoutS (withS s l.a (withS a l.b ((fieldS s l.b).getD zeroS))) l.b) else none:=fun ok=>by rw [swT,if_neg k1,if_neg k2,if_neg k3,if_neg k4,if_pos k5]
    cases hk0:ok with
    | false =>
     (refine dd8 @b1 @b2 @b3 @b4 @b5 @hk0 @v4 @v6 ?_)
     exact ⟨fin (hnone (by rw [e,hk0];rfl)) rfl fz0,hf4 _⟩
    | true =>
    (refine dd9 @b1 @b2 @b3 @b4 @b5 @hk0 @u3 @u2 (encL_eq l) ?_)
    refine DCalls.of_pure (has14_d s l.b (by omega)) ?_
    cases hh:hasB s l.b with
    | false =>
     (refine dd3 @hh @v4 @v6 ?_)
     exact ⟨fin (hnone (by rw [e,hk0,hh];rfl)) rfl fz0,hf4 _⟩
    | true =>
     have c7:(encS a).cells.getD 0 undefD=.v (.int .i64 a.kind):=by rw [encS_eq];rfl
     cases ha5:a.kind == 5 with
     | false =>
      have ha5':(a.kind != 5)=true:=by rw [bne,ha5];rfl
      (refine dd6 @hh @u7 @c7 @ha5' @v4 @v6 ?_)
      exact ⟨fin (hnone (by rw [e,hk0,hh,ha5];rfl)) rfl fz0,hf4 _⟩
     | true =>
     have ha5':(a.kind != 5)=false:=by rw [bne,ha5];rfl
     (refine dd6 @hh @u7 @c7 @ha5' @u2 (encL_eq l) ?_)
     refine DCalls.of_pure (has14_d a l.b (by omega)) ?_
     cases hg:hasB a l.b with
     | true =>
      (refine dd3 @hg @v4 @v6 ?_)
      exact ⟨fin (hnone (by rw [e,hk0,hh,ha5,hg];rfl)) rfl fz0,hf4 _⟩
     | false =>
      (refine dd4 @hg @u3 @u2 (encL_eq l) ?_)
      refine DCalls.of_pure (refFieldS_d s l.b hsk (by omega)) ?_
      have hX:=field_wt l.b hsw2 (by omega)
      (refine dd1 @tupS.eq_1 ?_)
      generalize (fieldS s l.b).getD zeroS=x at e hX ⊢
      generalize hY:St.set (St.add T0 _) _ _=T1
      have h01:T0.Sub T1:=by rw [← hY];exact ((St.Sub.refl T0).add hW0 _).set hW0 (Nat.le_refl _) _
      have hW1:T1.WF:=by rw [← hY];exact (hW0.add _).set (Nat.lt_succ_self _) _
      have hx:T1.ob T0.next=some (.box 25 (encS (x)).cells):=by rw [← hY];exact di0
      clear hY
      have w2:=h01.ob _ _ u2
      have w3:=h01.ob _ _ u3
      have w7:=h01.ob _ _ u7
      have w9:=h01.ob _ _ v9
      have z4:=h01.ob _ _ u4
      have z6:=h01.ob _ _ u6
      have h1n:=h01.next
      have hs19:∀ o:Ob,S.Sub (T1.set (S.next+1+1+1+1+1) o):=fun o=>(hs0.trans h01).set hS (by omega) _
      have hW19:∀ o:Ob,(T1.set (S.next+1+1+1+1+1) o).WF:=fun o=>hW1.set (by omega) _
      have hA5:Wt a 5265:=by
       obtain ⟨e',he',hra⟩:=hAd hk0
       exact ⟨hA.1,Nat.le_trans (rightS_wB e' a hra) (wB_le4 (by omega))⟩
      have hY1:=withS_wt hA5 hX ho.2.2.1 (by omega)
      have hY2:=withS_wt hsw2 hY1 ho.2.1 (by omega)
      refine ddraw_mk 12 (by kernel_rfl) ?_
      (refine dd5 @w2 @w3 @w7 @hx (encL_eq l) ?_)
      refine dqgo_mk (refWithS_d a x l.b (by omega)) ?_
      (refine dd5 @w2 @w3 @w7 @hx (encL_eq l) ?_)
      refine dqgo_mk (refWithS_d s _ l.a (by omega)) ?_
      (refine dd5 @w2 @w3 @w7 @hx (encL_eq l) ?_)
      refine dqgo_mk (refWithoutS_d _ l.b (by have:=hY2.2;omega)) ?_
      (refine dd1 @w9 ?_)
      exact ⟨hs19 _,hW19 _,z4,z6,_,by rw [e,hh,ha5,hg];rfl,(withoutS_wt hY2 (by omega)).le (by omega),rfl⟩
   have b5:(l.kind == 5)=false:=by simp [k5]
   by_cases k6:l.kind=6
   ·have b6:(l.kind == 6)=true:=by simp [k6]
    have e:∀ ok,swT (refT n) l s a ok=if ok=true then some (withS s l.a (.mk 6 [] [a])) else none:=fun ok=>by rw [swT,if_neg k1,if_neg k2,if_neg k3,if_neg k4,if_neg k5,if_pos k6]
    cases hk0:ok with
    | false =>
     (refine dd9 @b1 @b2 @b3 @b4 @b5 @b6 @hk0 @v4 @v6 ?_)
     exact ⟨fin (hnone (by rw [e,hk0];rfl)) rfl fz0,hf4 _⟩
    | true =>
     (refine dd11 @b1 @b2 @b3 @b4 @b5 @b6 @hk0 @u7 @u3 @u2 (encL_eq l) ?_)
     refine dcalls_argEq1 (args':=[encS s,.v (sv l.a),encS (.mk 6 [] [a])]) (by rw [encS_eq (.mk 6 [] [a])];simp only [frzL,D.frz,frz_encS];rfl) ?_
     refine DCalls.of_pure (refWithS_d s (.mk 6 [] [a]) l.a (by omega)) ?_
     (refine dd1 @v9 ?_)
     exact ⟨hs9 _,hW9 _,u4,u6,_,by rw [e];rfl,(withS_wt hsw2 (list1_wt hA (by omega)) ho.2.1 (by omega)).le (by omega),rfl⟩
   have b6:(l.kind == 6)=false:=by simp [k6]
   have c7:(encS a).cells.getD 0 undefD=.v (.int .i64 a.kind):=by rw [encS_eq];rfl
   have hpart:ok=true→a.kind=6→∃ y,a.parts=[y]∧Wt y 5265∧∃ e,e≤3∧rightS e y=true:=fun h0 h6=>by
    obtain ⟨e',he',hra⟩:=hAd h0
    have hwa:=rightS_wB e' a hra
    cases e' with
    | zero=>cases hra
    | succ e' =>
     rw [rightS] at hra
     simp only [Bool.and_eq_true,List.all_eq_true] at hra
     obtain ⟨y,hy⟩:=List.length_eq_one_iff.1 ((plainS_len hra.1).2.2.1 h6)
     have hym:y∈a.parts:=by rw [hy];exact List.mem_singleton.2 rfl
     exact ⟨y,hy,⟨((okS_eq a).1 hA.1).2.2.2.2 _ hym,by have:=DSch.weight_part hym;have:=wB_le4 (d:=e'+1) (by omega);omega⟩,e',by omega,hra.2 _ hym⟩
   by_cases k7:l.kind=7
   ·have b7:(l.kind == 7)=true:=by simp [k7]
    have e:∀ ok,swT (refT n) l s a ok=if (ok && a.kind == 6)=true then some (withS s l.a (a.parts.headD zeroS)) else none:=fun ok=>by rw [swT,if_neg k1,if_neg k2,if_neg k3,if_neg k4,if_neg k5,if_neg k6,if_pos k7]
    cases hk0:ok with
    | false =>
     (refine dd10 @b1 @b2 @b3 @b4 @b5 @b6 @b7 @hk0 @v4 @v6 ?_)
     exact ⟨fin (hnone (by rw [e,hk0];rfl)) rfl fz0,hf4 _⟩
    | true =>
    cases ha6:a.kind == 6 with
    | false =>
     have ha6':(a.kind != 6)=true:=by rw [bne,ha6];rfl
     (refine dd13 @b1 @b2 @b3 @b4 @b5 @b6 @b7 @hk0 @u7 @c7 @ha6' @v4 @v6 ?_)
     exact ⟨fin (hnone (by rw [e,hk0,ha6];rfl)) rfl fz0,hf4 _⟩
    | true =>
     have ha6':(a.kind != 6)=false:=by rw [bne,ha6];rfl
     obtain ⟨y,hy,hyw,_⟩:=hpart hk0 (by simpa using ha6)
     (refine dd11 @b1 @b2 @b3 @b4 @b5 @b6 @b7 @hk0 @u7 @c7 @ha6' ?_)
     refine ddraw_mk 8 (by kernel_rfl) ?_
     (refine dd9 @u2 @u3 @u7 (encL_eq l) (encS_eq a) @hy @List.map_cons.{0,0} @List.map_nil.{0,0} @List.length_singleton.{0} ?_)
     refine dqgo_mk (refWithS_d s y l.a (by omega)) ?_
     (refine dd1 @v9 ?_)
     exact ⟨hs9 _,hW9 _,u4,u6,_,by rw [e,ha6,hy];rfl,(withS_wt hsw2 hyw ho.2.1 (by omega)).le (by omega),rfl⟩
   have b7:(l.kind == 7)=false:=by simp [k7]
   by_cases k9:l.kind=9
   ·have b8:(l.kind == 8)=false:=by simp [k9]
    have b9:(l.kind == 9)=true:=by simp [k9]
    have e:∀ ok,swT (refT n) l s a ok=if (ok && (refT n (l.inner.headD zeroL) a).2)=true then some (withS s l.a (refT n (l.inner.headD zeroL) a).1) else none:=fun ok=>by rw [swT,if_neg k1,if_neg k2,if_neg k3,if_neg k4,if_neg k5,if_neg k6,if_neg k7,if_neg (by omega),if_pos k9]
    obtain ⟨k',hi,hin⟩:=hl.inner (by rw [uI,b9];rfl)
    obtain ⟨x,hx⟩:=List.length_eq_one_iff.1 hin
    rw [hx] at hi e
    have hi':Lo k' n x:=hi
    have z1:(((1:Nat):Int) != 1)=false:=rfl
    have hc:DPure Tryz.prog 51 [encL x,encS a] (tupBs (refT n x a)):=by
     cases hk0:ok with
     | true =>
      obtain ⟨e',he',hra⟩:=hAd hk0
      exact ih k' x e' a hi' (by omega) (.inl hra) hA.1 hA.2
     | false=>exact ih k' x 5 a hi' (Nat.le_refl _) (.inr (by rw [hAn hk0];decide)) hA.1 hA.2
    (simp (disch:=first | decide | omega | (simp only [nx];first | done | omega)) only [go_sem,b1,b2,b3,b4,b5,b6,b7,b8,b9,u2,encL_eq l,hx,List.map_cons,List.map_nil,List.length_singleton,z1];(repeat with_reducible refine aI ?_))
    refine ddraw_any (fun S'=>S'.ob S.next=some (.box 47 (encL l).cells)∧S'.ob (S.next+1+1+1+1)=some (.box 25 (encS a).cells)) 12 (by exact di4 @u2 @u7 @true_and @and_true) (by kernel_rfl) ?_
    (have F:=pk5 (encL_eq l) @hx @List.map_cons.{0,0} @List.map_nil.{0,0} @List.length_singleton.{0};refine stq F 0 ?_;refine stq F 1 ?_;refine stq F 2 ?_;refine stq F 3 ?_;refine stq F 4 ?_;clear F)
    (refine stk 5 (v:=?v6) (fun S' hz=>dquietR_of ?h6) ?k6;(case h6=>((refine dd1 @hz ?_);refine dqgo_mk (hc) ?_;exact rfl)))
    (have F:=@tupBs.eq_1;refine stq F 6 ?_;refine stq F 7 ?_;refine stq F 8 ?_;clear F)
    (refine s_one 9 ?_;(refine dd0 ?_))
    refine ⟨⟨u2,u7⟩,?_⟩
    (refine s_one 10 ?_;(refine dd0 ?_))
    refine ⟨⟨by first | exact u2 | exact di1 @u2,by first | exact u7 | exact di1 @u7⟩,?_⟩
    (have F:=trivial;refine stq F 11 ?_;clear F)
    (refine s_done (by kernel_rfl) ?_;(refine dd0 ?_))
    generalize hY:St.set (St.add T0 _) _ _=T1
    have h01:T0.Sub T1:=by rw [← hY];exact ((St.Sub.refl T0).add hW0 _).set hW0 (Nat.le_refl _) _
    have hW1:T1.WF:=by rw [← hY];exact (hW0.add _).set (Nat.lt_succ_self _) _
    have hxb:T1.ob T0.next=some (.box 25 (encS (refT n x a).1).cells):=by rw [← hY];exact di0
    clear hY
    have w2:=h01.ob _ _ u2
    have w3:=h01.ob _ _ u3
    have w9:=h01.ob _ _ v9
    have w4:=h01.ob _ _ v4
    have w6:=h01.ob _ _ v6
    have z4:=h01.ob _ _ u4
    have z6:=h01.ob _ _ u6
    have h1n:=h01.next
    have hs14:∀ o:Ob,S.Sub (T1.set (S.next+1+1) o):=fun o=>(hs0.trans h01).set hS (by omega) _
    have hs19:∀ o:Ob,S.Sub (T1.set (S.next+1+1+1+1+1) o):=fun o=>(hs0.trans h01).set hS (by omega) _
    have hW19:∀ o:Ob,(T1.set (S.next+1+1+1+1+1) o).WF:=fun o=>hW1.set (by omega) _
    cases hk0:ok with
    | false =>
     (refine dd3 @hk0 @w4 @w6 ?_)
     exact ⟨fin (hnone (by rw [e,hk0];rfl)) rfl fz0,hs14 _⟩
    | true =>
     cases hg:(refT n x a).2 with
     | false =>
      (refine dd4 @hk0 @hg @w4 @w6 ?_)
      exact ⟨fin (hnone (by rw [e,hk0];show (if (true && (refT n x a).2)=true then _ else _)=_;rw [hg];rfl)) rfl fz0,hs14 _⟩
     | true =>
      (refine dd6 @hk0 @hg @w2 @w3 @hxb (encL_eq l) ?_)
      refine DCalls.of_pure (refWithS_d s (refT n x a).1 l.a (by omega)) ?_
      have hxw:Wt (refT n x a).1 42129:=by
       obtain ⟨e',he',hra⟩:=hAd hk0
       exact refT_wt n k' x e' a hi' (by omega) (.inl hra) hA.1 hA.2
      (refine dd1 @w9 ?_)
      exact ⟨hs19 _,hW19 _,z4,z6,_,by rw [e];show (if (true && (refT n x a).2)=true then _ else _)=_;rw [hg];rfl,(withS_wt hsw2 hxw ho.2.1 (by omega)).le (by omega),rfl⟩
   have b9:(l.kind == 9)=false:=by simp [k9]
   by_cases k8:l.kind=8
   ·have b8:(l.kind == 8)=true:=by simp [k8]
    have e:∀ ok,swT (refT n) l s a ok=if (ok && (!decide (a.kind > 4) && (fitsTop l.back a && l.pairs.all (fun p=>fitsTop p.1 a))))=true then some (withS s l.a l.typ) else none:=fun ok=>by rw [swT,if_neg k1,if_neg k2,if_neg k3,if_neg k4,if_neg k5,if_neg k6,if_neg k7,if_pos k8]
    cases hk0:ok with
    | false =>
     (refine dd11 @b1 @b2 @b3 @b4 @b5 @b6 @b7 @b8 @hk0 @v4 @v6 ?_)
     exact ⟨fin (hnone (by rw [e,hk0];rfl)) rfl fz0,hf4 _⟩
    | true =>
    cases hg:decide (a.kind > 4) with
    | true =>
     (refine dd14 @b1 @b2 @b3 @b4 @b5 @b6 @b7 @b8 @hk0 @u7 @c7 @hg @v4 @v6 ?_)
     exact ⟨fin (hnone (by rw [e,hk0,hg];rfl)) rfl fz0,hf4 _⟩
    | false =>
    have hbd:=DVal.depth_weight l.back.depth l.back (Nat.le_refl _)
    have had:=DSch.depth_weight a.depth a (Nat.le_refl _)
    have hroom:∃ k',k=k'+1:=by
     cases k with
     | zero=>exact absurd hl.room (by simp [roomL])
     | succ k=>exact ⟨k,rfl⟩
    obtain ⟨k',rfl⟩:=hroom
    have hrm:=roomL_of hl.room
    have hbw:=(smallV hrm.back).1
    (refine dd14 @b1 @b2 @b3 @b4 @b5 @b6 @b7 @b8 @hk0 @u7 @c7 @hg @u2 (encL_eq l) ?_)
    rw [aggV_fold]
    refine DCalls.of_pure (refFitsTop_d l.back a ho.2.2.2.2.2.1 hA.1 (by omega) (by omega)) ?_
    cases hh:fitsTop l.back a with
    | false =>
     (refine dd3 @hh @v4 @v6 ?_)
     exact ⟨fin (hnone (by rw [e,hk0,hg,hh];rfl)) rfl fz0,hf4 _⟩
    | true =>
    have hpl:=hrm.pairs
    (refine dd3 @hh @u2 (encL_eq l) ?_)
    (refine dloop_st (fun t=>List.contains [5,14,209,210,211,212,213,214,215,216,217,218,219,220,221,222,223,224,225] t) (by kernel_rfl) ?_ (l.pairs.length) (fun i f=>i≤l.pairs.length∧f 14=.v (.int .i64 ((i:Nat):Int))∧(∀ j (h:j<l.pairs.length),j<i→fitsTop l.pairs[j].1 a=true)) ?_ ?_;(exact wfA);(exact ⟨(by omega),(by exact di0),(fun j _ h=>absurd h (by omega))⟩);intro i g tn hn hT hg hI;obtain ⟨le,q14,hs⟩:=hI;have q2:=hg 2 rfl;have q3:=hg 3 rfl;have q4:=hg 4 rfl;have q6:=hg 6 rfl;have q7:=hg 7 rfl;have q8:=hg 8 rfl;have q9:=hg 9 rfl;have q37:=hg 37 rfl;simp (disch:=first | decide | omega | (simp only [nx];first | done | omega)) only [go_sem] at q2 q3 q4 q6 q7 q8 q9 q37;clear hg;have hn':=hn;try simp only [add_next,set_next,grow_next,leave_next,drop_next] at hn')
    have hsT:S.Sub ⟨tn,T0.ob⟩:=⟨Nat.le_trans hs0.next hn,hs0.ob⟩
    have hsT4:∀ o:Ob,S.Sub (St.set ⟨tn,T0.ob⟩ (S.next+1+1) o):=fun o=>hsT.set hS (by omega) _
    have hsT9:∀ o:Ob,S.Sub (St.set ⟨tn,T0.ob⟩ (S.next+1+1+1+1+1) o):=fun o=>hsT.set hS (by omega) _
    have hWT9:∀ o:Ob,(St.set ⟨tn,T0.ob⟩ (S.next+1+1+1+1+1) o).WF:=fun o=>hT.set (by show _<tn;omega) _
    by_cases hlt:i<l.pairs.length
    ·have c1:decide ((i:Int)<(l.pairs.length:Int))=true:=decide_eq_true (by omega)
     have w1:IntKind.i64.wrap ((i:Int)+1)=((i+1:Nat):Int):=IntWalk.i64_in _ ⟨by omega,by omega⟩
     have hget:=getD_map encPr l.pairs i hlt
     have hpo:=ho.2.2.2.2.2.2.1 _ (List.getElem_mem hlt)
     have hpw:=(smallV (hrm.prs _ (List.getElem_mem hlt)).1).1
     have hpd:=DVal.depth_weight l.pairs[i].1.depth l.pairs[i].1 (Nat.le_refl _)
     (refine dd5 @q2 @q14 @u2 (encL_eq l) @c1 ?_)
     refine ddraw_mk 9 (by kernel_rfl) ?_
     (refine dd10 @q2 @q7 @q14 @u2 @u7 (encL_eq l) @c1 @hget @hlt @encPr_eq ?_)
     rw [aggV_fold]
     refine dqgo_mk (refFitsTop_d l.pairs[i].1 a hpo.1 hA.1 (by omega) (by omega)) ?_
     cases hq:fitsTop l.pairs[i].1 a with
     | false =>
      (refine dd5 @hq @q4 @q6 @v4 @v6 ?_)
      have hall:l.pairs.all (fun p=>fitsTop p.1 a)=false:=List.all_eq_false.2 ⟨_,List.getElem_mem hlt,by rw [hq];simp⟩
      exact ⟨fin (hnone (by rw [e,hk0,hg,hh,hall];rfl)) rfl fz0,hsT4 _⟩
     | true =>
      (refine dd3 @hq @q14 @w1 ?_)
      refine ⟨by omega,⟨hn,fun _ _ h=>h⟩,by omega,?_,fun j hj hji=>?_⟩
      ·exact di1 @w1
      ·by_cases ej:j=i
       ·subst ej;exact hq
       ·exact hs j hj (by omega)
    ·have c1:decide ((i:Int)<(l.pairs.length:Int))=false:=decide_eq_false (by omega)
     (refine dd7 @q2 @q3 @q14 @u2 @u3 (encL_eq l) @c1 ?_)
     rw [aggS_fold]
     refine DCalls.of_pure (refWithS_d s l.typ l.a (by omega)) ?_
     (refine dd2 @q9 @v9 ?_)
     have hall:l.pairs.all (fun p=>fitsTop p.1 a)=true:=List.all_eq_true.2 fun x hx=>by
      obtain ⟨j,hj,rfl⟩:=List.getElem_of_mem hx
      exact hs j hj (by omega)
     exact ⟨hsT9 _,hWT9 _,u4,u6,_,by rw [e,hg,hh,hall];rfl,(withS_wt hsw2 htw ho.2.1 (by omega)).le (by omega),rfl⟩
   ·have b8:(l.kind == 8)=false:=by simp [k8]
    have k10:l.kind=10:=by have:=hl.kind;omega
    have b10:(l.kind == 10)=true:=by simp [k10]
    have e:∀ ok,swT (refT n) l s a ok=if (ok && (a.kind == 6 && (refT n (l.inner.headD zeroL) (a.parts.headD zeroS)).2))=true then some (withS s l.a (.mk 6 [] [(refT n (l.inner.headD zeroL) (a.parts.headD zeroS)).1])) else none:=fun ok=>by rw [swT,if_neg k1,if_neg k2,if_neg k3,if_neg k4,if_neg k5,if_neg k6,if_neg k7,if_neg k8,if_neg k9]
    cases hk0:ok with
    | false =>
     (refine dd13 @b1 @b2 @b3 @b4 @b5 @b6 @b7 @b8 @b9 @b10 @hk0 @v4 @v6 ?_)
     exact ⟨fin (hnone (by rw [e,hk0];rfl)) rfl fz0,hf4 _⟩
    | true =>
    cases ha6:a.kind == 6 with
    | false =>
     have ha6':(a.kind != 6)=true:=by rw [bne,ha6];rfl
     (simp (disch:=first | decide | omega | (simp only [nx];first | done | omega)) only [go_sem,b1,b2,b3,b4,b5,b6,b7,b8,b9,b10,hk0,u7,c7,ha6',v4,v6];(repeat with_reducible refine aI ?_))
     exact ⟨fin (hnone (by rw [e,hk0,ha6];rfl)) rfl fz0,hf4 _⟩
    | true =>
    have ha6':(a.kind != 6)=false:=by rw [bne,ha6];rfl
    obtain ⟨y,hy,hyw,ey,hey,hyr⟩:=hpart hk0 (by simpa using ha6)
    obtain ⟨k',hi,hin⟩:=hl.inner (by rw [uI,b10];simp)
    obtain ⟨x,hx⟩:=List.length_eq_one_iff.1 hin
    rw [hx] at hi
    have e:=e ok
    rw [hx,hy,hk0,ha6] at e
    replace e:swT (refT n) l s a true=if (refT n x y).2=true then some (withS s l.a (.mk 6 [] [(refT n x y).1])) else none:=e
    have hi':Lo k' n x:=hi
    have z1:(((1:Nat):Int) != 1)=false:=rfl
    have hyw2:=hyw.2
    have hc:=ih k' x ey y hi' (by omega) (.inl hyr) hyw.1 (by omega)
    have hxw:=refT_wt n k' x ey y hi' (by omega) (.inl hyr) hyw.1 (by omega)
    (simp (disch:=first | decide | omega | (simp only [nx];first | done | omega)) only [go_sem,b1,b2,b3,b4,b5,b6,b7,b8,b9,b10,hk0,u7,c7,ha6',u2,encL_eq l,hx,List.map_cons,List.map_nil,List.length_singleton,z1];(repeat with_reducible refine aI ?_))
    refine ddraw_any (fun S'=>S'.ob S.next=some (.box 47 (encL l).cells)∧S'.ob (S.next+1+1+1+1)=some (.box 25 (encS a).cells)) 15 (by exact di4 @u2 @u7 @true_and @and_true) (by kernel_rfl) ?_
    (have F:=pk7 (encL_eq l) (encS_eq a) @hx @hy @List.map_cons.{0,0} @List.map_nil.{0,0} @List.length_singleton.{0};refine stq F 0 ?_;refine stq F 1 ?_;refine stq F 2 ?_;refine stq F 3 ?_;refine stq F 4 ?_;refine stq F 5 ?_;refine stq F 6 ?_;refine stq F 7 ?_;clear F)
    (refine stk 8 (v:=?v19) (fun S' hz=>dquietR_of ?h19) ?k19;(case h19=>((refine dd1 @hz ?_);refine dqgo_mk (hc) ?_;exact rfl)))
    (have F:=@tupBs.eq_1;refine stq F 9 ?_;refine stq F 10 ?_;refine stq F 11 ?_;clear F)
    (refine s_one 12 ?_;(refine dd0 ?_))
    refine ⟨⟨u2,u7⟩,?_⟩
    (refine s_one 13 ?_;(refine dd0 ?_))
    refine ⟨⟨by first | exact u2 | exact di1 @u2,by first | exact u7 | exact di1 @u7⟩,?_⟩
    (have F:=trivial;refine stq F 14 ?_;clear F)
    (refine s_done (by kernel_rfl) ?_;(refine dd0 ?_))
    generalize hY:St.set (St.add T0 _) _ _=T1
    have h01:T0.Sub T1:=by rw [← hY];exact ((St.Sub.refl T0).add hW0 _).set hW0 (Nat.le_refl _) _
    have hW1:T1.WF:=by rw [← hY];exact (hW0.add _).set (Nat.lt_succ_self _) _
    have hxb:T1.ob T0.next=some (.box 25 (encS (refT n x y).1).cells):=by rw [← hY];exact di0
    clear hY
    have w2:=h01.ob _ _ u2
    have w3:=h01.ob _ _ u3
    have w9:=h01.ob _ _ v9
    have w4:=h01.ob _ _ v4
    have w6:=h01.ob _ _ v6
    have z4:=h01.ob _ _ u4
    have z6:=h01.ob _ _ u6
    have h1n:=h01.next
    have hs14:∀ o:Ob,S.Sub (T1.set (S.next+1+1) o):=fun o=>(hs0.trans h01).set hS (by omega) _
    have hs19:∀ o:Ob,S.Sub (T1.set (S.next+1+1+1+1+1) o):=fun o=>(hs0.trans h01).set hS (by omega) _
    have hW19:∀ o:Ob,(T1.set (S.next+1+1+1+1+1) o).WF:=fun o=>hW1.set (by omega) _
    cases hg:(refT n x y).2 with
    | false =>
     (refine dd3 @hg @w4 @w6 ?_)
     exact ⟨fin (hnone (by rw [hk0,e,hg];rfl)) rfl fz0,hs14 _⟩
    | true =>
     (refine dd5 @hg @w2 @w3 @hxb (encL_eq l) ?_)
     refine dcalls_argEq1 (args':=[encS s,.v (sv l.a),encS (.mk 6 [] [(refT n x y).1])]) (by rw [encS_eq (.mk 6 [] [(refT n x y).1])];simp only [frzL,D.frz,frz_encS];rfl) ?_
     refine DCalls.of_pure (refWithS_d s (.mk 6 [] [(refT n x y).1]) l.a (by omega)) ?_
     (refine dd1 @w9 ?_)
     exact ⟨hs19 _,hW19 _,z4,z6,_,by rw [e,hg];rfl,(withS_wt hsw2 (list1_wt hxw (by omega)) ho.2.1 (by omega)).le (by omega),rfl⟩
  ·rintro f T ⟨f4,f6,f9,hsT,hWT,t4,t6,t,ht,htw,t9⟩
   have hts:=hsome ht
   have htd:=DSch.depth_weight t.depth t (Nat.le_refl _)
   have htw2:=htw.2
   unfold zSc at t4 t6
   (refine dd4 @f4 @f6 @f9 @t9 ?_)
   refine DCalls.of_pure (refSchRight_d t htw.1 (by omega)) ?_
   have hfs:∀ o:Ob,S.Sub (T.set (S.next+1+1) o):=fun o=>hsT.set hS (by omega) _
   cases h9:rightS 5 t with
   | false =>
    rw [h9,if_neg (by decide)] at hts
    (refine dd6 @f4 @f6 @f9 @t4 @t6 @t9 ?_)
    exact ⟨fin hts rfl fz0,hfs _⟩
   | true =>
    rw [h9,if_pos rfl] at hts
    (refine dd6 @f4 @f6 @f9 @t4 @t6 @t9 ?_)
    exact ⟨fin hts rfl (frz_encS _),hfs _⟩
end
theorem ins_set {α:Type} (l:List α) (x y:α) {i k:Nat} (hk:k≤l.length) (hi:i<l.length) :
  (l.take k++[x]++l.drop k).set (if i<k then i else i+1) y=(l.set i y).take k++[x]++(l.set i y).drop k:=by
 have hl:(l.take k).length=k:=by rw [List.length_take];omega
 by_cases h:i<k
 ·rw [if_pos h,List.append_assoc,List.set_append_left _ _ (by omega),List.take_set,List.drop_set_of_lt h,List.append_assoc]
 ·have hs:(l.take k).set i y=l.take k:=List.set_eq_of_length_le (by omega)
  rw [if_neg h,List.append_assoc,List.set_append_right _ _ (by omega),hl,List.take_set,hs,List.append_assoc]
  congr 1
  rw [show i+1 - k=(i - k)+1 by omega,List.singleton_append,List.set_cons_succ,List.drop_set,if_neg h,List.singleton_append]
theorem idx_ne {α:Type} [DecidableEq α] {a b:α} {l:List α} (h:b ≠ a):List.idxOf a (b::l)=List.idxOf a l+1:=by
 have hb:(b == a)=false:=beq_eq_false_iff_ne.2 h
 rw [List.idxOf_cons,hb];rfl
theorem ix_get {α:Type} [DecidableEq α] {l:List α} {x:α} (h:ixN l x<l.length):l[ixN l x]=x:=List.getElem_idxOf h
theorem ix_ins {α:Type} [DecidableEq α] {l:List α} {A B:α} {k:Nat} (hk:k≤l.length) (hA:A∈l) (hne:A ≠ B):ixN (l.take k++[B]++l.drop k) A=if ixN l A<k then ixN l A else ixN l A+1:=by
 have hl:(l.take k).length=k:=by rw [List.length_take];omega
 have e2:ixN l A=ixN (l.take k++l.drop k) A:=by rw [List.take_append_drop]
 rw [e2]
 unfold ixN
 have f1:List.idxOf A (l.take k++([B]++l.drop k))=if A∈l.take k then List.idxOf A (l.take k) else List.idxOf A ([B]++l.drop k)+(l.take k).length:=List.idxOf_append
 have f2:List.idxOf A (l.take k++l.drop k)=if A∈l.take k then List.idxOf A (l.take k) else List.idxOf A (l.drop k)+(l.take k).length:=List.idxOf_append
 rw [List.append_assoc,f1,f2]
 by_cases h:A∈l.take k
 ·have:=List.idxOf_lt_length_iff.2 h
  rw [if_pos h,if_pos h,if_pos (by omega)]
 ·rw [if_neg h,if_neg h,List.singleton_append,idx_ne (fun e=>hne e.symm),hl,if_neg (by omega)]
  omega
theorem hasB_eq {d:Nat} {s:DSch} (x:Str) (h:rightS d s=true∨s.kind ≠ 5):hasB s x=(fieldS s x).isSome:=by
 rw [hasB,fieldS]
 rcases h with h | h
 ·cases d with
  | zero=>cases h
  | succ d =>
   rw [rightS,Bool.and_eq_true] at h
   have hl:=(plainS_len h.1).2.2.2
   by_cases h5:s.kind=5
   ·have hw:wholeS s=true:=by
     rw [wholeS,decide_eq_true h5,decide_eq_true (by have:=hl h5;omega)];rfl
    have e5:(s.kind == 5)=true:=by simp [h5]
    rw [e5,Bool.true_and]
    by_cases hm:x∈s.words
    ·rw [decide_eq_true hm,if_pos ⟨hw,hm⟩];rfl
    ·rw [decide_eq_false hm,if_neg (fun h=>hm h.2)];rfl
   ·have e5:(s.kind == 5)=false:=by simp [h5]
    rw [e5,Bool.false_and,if_neg]
    ·rfl
    ·intro hh
     have:=hh.1
     rw [wholeS,decide_eq_false h5] at this
     cases this
 ·have e5:(s.kind == 5)=false:=by simp [h]
  rw [e5,Bool.false_and,if_neg]
  ·rfl
  ·intro hh
   have:=hh.1
   rw [wholeS,decide_eq_false h] at this
   cases this
theorem whole_of {s:DSch} {x:Str} (h:(fieldS s x).isSome=true):wholeS s=true∧x∈s.words:=by
 unfold fieldS at h
 split at h
 ·rename_i h2;exact h2
 ·cases h
theorem wholeS_of {s:DSch} (ns:List Str) (ps:List DSch) (h:wholeS s=true) (hl:ns.length≤ps.length):wholeS (s.ofFields ns ps)=true:=by
 simp only [wholeS,Bool.and_eq_true,decide_eq_true_eq] at h ⊢
 exact ⟨h.1,hl⟩
theorem with_with {s y x:DSch} {A B:Str} (hw:wholeS s=true) (hA:A∈s.words) (hB:B ∉ s.words) (hne:A ≠ B):withS (withS s A y) B x=withS (withS s B x) A y:=by
 have hl:s.words.length≤s.parts.length:=by
  simp only [wholeS,Bool.and_eq_true,decide_eq_true_eq] at hw;exact hw.2
 have hi:=ix_lt hA
 have hk:atN s.words B≤s.words.length:=List.findIdx_le_length
 have e1:withS s A y=s.ofFields s.words (s.parts.set (ixN s.words A) y):=by rw [withS,if_neg (by rw [hw];decide),if_pos hA]
 have e2:withS s B x=s.ofFields (s.words.take (atN s.words B)++[B]++s.words.drop (atN s.words B)) (s.parts.take (atN s.words B)++[x]++s.parts.drop (atN s.words B)):=by rw [withS,if_neg (by rw [hw];decide),if_neg hB]
 have w1:wholeS (s.ofFields s.words (s.parts.set (ixN s.words A) y))=true:=wholeS_of _ _ hw (by rw [List.length_set];exact hl)
 have w2:wholeS (s.ofFields (s.words.take (atN s.words B)++[B]++s.words.drop (atN s.words B)) (s.parts.take (atN s.words B)++[x]++s.parts.drop (atN s.words B)))=true:=wholeS_of _ _ hw (by simp only [List.length_append,List.length_take,List.length_drop,List.length_singleton];omega)
 have hm:A∈(s.ofFields (s.words.take (atN s.words B)++[B]++s.words.drop (atN s.words B)) (s.parts.take (atN s.words B)++[x]++s.parts.drop (atN s.words B))).words:=by
  show A∈s.words.take (atN s.words B)++[B]++s.words.drop (atN s.words B)
  have:A∈s.words.take (atN s.words B)++s.words.drop (atN s.words B):=by rw [List.take_append_drop];exact hA
  rcases List.mem_append.1 this with h | h
  ·exact List.mem_append_left _ (List.mem_append_left _ h)
  ·exact List.mem_append_right _ h
 have hm2:B ∉ (s.ofFields s.words (s.parts.set (ixN s.words A) y)).words:=hB
 rw [e1,e2,withS,if_neg (by rw [w1];decide),if_neg hm2,withS,if_neg (by rw [w2];decide),if_pos hm]
 show DSch.mk _ _ _=DSch.mk _ _ _
 congr 1
 show (s.parts.set (ixN s.words A) y).take (atN s.words B)++[x]++(s.parts.set (ixN s.words A) y).drop (atN s.words B)=(s.parts.take (atN s.words B)++[x]++s.parts.drop (atN s.words B)).set (ixN (s.words.take (atN s.words B)++[B]++s.words.drop (atN s.words B)) A) y
 rw [ix_ins hk hA hne,ins_set _ _ _ (by omega) (by omega)]
theorem set_era {α:Type} (l:List α) (y:α) {i j:Nat} (hi:i<l.length) (hj:j<l.length) (hne:i ≠ j) :
  (l.take j++l.drop (j+1)).set (if i<j then i else i - 1) y=(l.set i y).take j++(l.set i y).drop (j+1):=by
 have hl:(l.take j).length=j:=by rw [List.length_take];omega
 by_cases h:i<j
 ·rw [if_pos h,List.set_append_left _ _ (by omega),List.take_set,List.drop_set_of_lt (by omega)]
 ·have hs:(l.take j).set i y=l.take j:=List.set_eq_of_length_le (by omega)
  rw [if_neg h,List.set_append_right _ _ (by omega),hl,List.take_set,hs]
  congr 1
  rw [List.drop_set,if_neg (by omega),show i - 1 - j=i - (j+1) by omega]
theorem ix_era {α:Type} [DecidableEq α] {l:List α} {A B:α} (hA:A∈l) (hB:B∈l) (hne:A ≠ B):ixN (l.take (ixN l B)++l.drop (ixN l B+1)) A=if ixN l A<ixN l B then ixN l A else ixN l A - 1:=by
 have hj:=ix_lt hB
 have hgB:l[ixN l B]=B:=List.getElem_idxOf hj
 generalize hq:ixN l B=j at hj hgB ⊢
 have hl:(l.take j).length=j:=by rw [List.length_take];omega
 have hd:l.drop j=B::l.drop (j+1):=by rw [List.drop_eq_getElem_cons hj,hgB]
 have e2:ixN l A=ixN (l.take j++l.drop j) A:=by rw [List.take_append_drop]
 rw [e2,hd]
 unfold ixN
 have f1:List.idxOf A (l.take j++l.drop (j+1))=if A∈l.take j then List.idxOf A (l.take j) else List.idxOf A (l.drop (j+1))+(l.take j).length:=List.idxOf_append
 have f2:List.idxOf A (l.take j++B::l.drop (j+1))=if A∈l.take j then List.idxOf A (l.take j) else List.idxOf A (B::l.drop (j+1))+(l.take j).length:=List.idxOf_append
 rw [f1,f2]
 by_cases h:A∈l.take j
 ·have:=List.idxOf_lt_length_iff.2 h
  rw [if_pos h,if_pos h,if_pos (by omega)]
 ·rw [if_neg h,if_neg h,idx_ne (fun e=>hne e.symm),hl,if_neg (by omega)]
  omega
theorem with_without {s y:DSch} {A B:Str} (hw:wholeS s=true) (hA:A∈s.words) (hB:B∈s.words) (hne:A ≠ B):withS (withoutS s B) A y=withoutS (withS s A y) B:=by
 have hl:s.words.length≤s.parts.length:=by
  simp only [wholeS,Bool.and_eq_true,decide_eq_true_eq] at hw;exact hw.2
 have hi:=ix_lt hA
 have hj:=ix_lt hB
 have hij:ixN s.words A ≠ ixN s.words B:=fun e=>by
  have h1:s.words[ixN s.words A]=A:=ix_get hi
  have h2:s.words[ixN s.words B]=B:=ix_get hj
  simp only [e] at h1
  exact hne (h1.symm.trans h2)
 have e1:withS s A y=s.ofFields s.words (s.parts.set (ixN s.words A) y):=by rw [withS,if_neg (by rw [hw];decide),if_pos hA]
 have e2:withoutS s B=s.ofFields (s.words.take (ixN s.words B)++s.words.drop (ixN s.words B+1)) (s.parts.take (ixN s.words B)++s.parts.drop (ixN s.words B+1)):=by rw [withoutS,if_pos ⟨hw,hB⟩]
 have w1:wholeS (s.ofFields s.words (s.parts.set (ixN s.words A) y))=true:=wholeS_of _ _ hw (by rw [List.length_set];exact hl)
 have w2:wholeS (s.ofFields (s.words.take (ixN s.words B)++s.words.drop (ixN s.words B+1)) (s.parts.take (ixN s.words B)++s.parts.drop (ixN s.words B+1)))=true:=wholeS_of _ _ hw (by simp only [List.length_append,List.length_take,List.length_drop];omega)
 have hm:A∈(s.ofFields (s.words.take (ixN s.words B)++s.words.drop (ixN s.words B+1)) (s.parts.take (ixN s.words B)++s.parts.drop (ixN s.words B+1))).words:=by
  show A∈s.words.take (ixN s.words B)++s.words.drop (ixN s.words B+1)
  have hg:s.words[ixN s.words B]=B:=ix_get hj
  have:A∈s.words.take (ixN s.words B)++s.words.drop (ixN s.words B):=by rw [List.take_append_drop];exact hA
  rw [List.drop_eq_getElem_cons hj,hg] at this
  rcases List.mem_append.1 this with h | h
  ·exact List.mem_append_left _ h
  ·rcases List.mem_cons.1 h with h | h
   ·exact absurd h hne
   ·exact List.mem_append_right _ h
 have hm2:B∈(s.ofFields s.words (s.parts.set (ixN s.words A) y)).words:=hB
 rw [e1,e2,withS,if_neg (by rw [w2];decide),if_pos hm,withoutS,if_pos ⟨w1,hm2⟩]
 show DSch.mk _ _ _=DSch.mk _ _ _
 congr 1
 show (s.parts.take (ixN s.words B)++s.parts.drop (ixN s.words B+1)).set (ixN (s.words.take (ixN s.words B)++s.words.drop (ixN s.words B+1)) A) y=(s.parts.set (ixN s.words A) y).take (ixN s.words B)++(s.parts.set (ixN s.words A) y).drop (ixN s.words B+1)
 rw [ix_era hA hB hne,set_era _ _ (by omega) (by omega) hij]
noncomputable def goT (r:DSch × Bool):DSch × Bool:=if r.2=true then r else (zeroS,false)
theorem goT_2 (r:DSch × Bool):(goT r).2=r.2:=by
 unfold goT
 cases h:r.2 with
 | true=>rw [if_pos rfl,h]
 | false=>rw [if_neg (by decide)]
theorem goT_1 {r:DSch × Bool} (h:r.2=true):goT r=r:=by rw [goT,if_pos h]
noncomputable def chkT (o:Option DSch):DSch × Bool:=match o with
 | some t=>if rightS 5 t=true then (t,true) else (zeroS,false)
 | none=>(zeroS,false)
theorem fin_T {o:Option DSch} {b:Bool} {t:DSch} {r:DSch × Bool} (ho:o=if b=true then some t else none) (h1:b=true→r=(t,rightS 5 t)) (h0:b=false→r.2=false) :
  chkT o=goT r:=by
 subst ho
 cases b with
 | true =>
  rw [if_pos rfl,h1 rfl,goT]
  show (if rightS 5 t=true then (t,true) else (zeroS,false))=if rightS 5 t=true then (t,rightS 5 t) else (zeroS,false)
  split
  ·rename_i h;rw [h]
  ·rfl
 | false =>
  rw [if_neg (by decide),goT,if_neg (by rw [h0 rfl];decide)]
  rfl
theorem field_zero (x:Str):fieldS zeroS x=none:=by
 rw [fieldS,if_neg (fun h=>by have:=h.1;revert this;decide)]
theorem refT_eq : ∀ (n k : Nat) (l : DLens) (d : Nat) (s : DSch), Lo k n l → d ≤ 5 → rightS d s = true → okS s → refT n l s = goT (targetS n l s) := by
  intro n
  induction n with
  | zero => intro k l d s hl; exact absurd hl.right (by simp [rightL])
  | succ n ih =>
    intro k l d s hl hd hr hsk
    have hr5 := rightS_le hr hd
    by_cases k5 : s.kind = 5
    case neg => rw [refT, if_neg (fun h => k5 h.1), targetS, if_neg (fun h => k5 h.1)]; rfl
    rw [refT, if_pos ⟨k5, hr5⟩]
    show chkT _ = _
    have hw : wholeS s = true := by
      cases d with
      | zero => cases hr
      | succ d =>
        rw [rightS, Bool.and_eq_true] at hr
        have := (plainS_len hr.1).2.2.2 k5
        rw [wholeS, decide_eq_true k5, decide_eq_true (by omega)]; rfl
    have hk := hl.kind
    have hA : ∀ x, (fieldS s x).isSome = true → x ∈ s.words := fun x h => (whole_of h).2
    have hN : ∀ x, (fieldS s x).isSome = false → x ∉ s.words := fun x h hm => by
      rw [fieldS, if_pos ⟨hw, hm⟩] at h; cases h
    have hne : uB l.kind = true → l.a ≠ l.b := fun h e => by
      have := hl.right
      simp only [rightL, headL, h, if_true, Bool.and_eq_true, e] at this
      simp at this
    have hAd : (fieldS s l.a).isSome = true → ∃ e, e + 1 ≤ 5 ∧ rightS e ((fieldS s l.a).getD zeroS) = true := fun hf => by
      cases d with
      | zero => cases hr
      | succ e => exact ⟨e, hd, field_right hr hf⟩
    have hAn : (fieldS s l.a).isSome = false → (fieldS s l.a).getD zeroS = zeroS := fun hf => by
      cases h : fieldS s l.a with
      | none => rfl
      | some x => rw [h] at hf; cases hf
    have hAk : okS ((fieldS s l.a).getD zeroS) := (field_wt l.a (⟨hsk, Nat.le_refl _⟩ : Wt s s.weight) (by have := s.weight_eq; omega)).1
    have hsB := fun x => hasB_eq (d := d) (s := s) x (.inl hr)
    have hok : ((fieldS s l.a).isSome = true → l.a ∈ s.words) := hA l.a
    have eT : targetS (n + 1) l s = if l.kind ≤ 5 then ((besideS l s ((fieldS s l.a).getD zeroS) (fieldS s l.a).isSome).1, (besideS l s ((fieldS s l.a).getD zeroS) (fieldS s l.a).isSome).2 && rightS 5 (besideS l s ((fieldS s l.a).getD zeroS) (fieldS s l.a).isSome).1)
       else if (fieldS s l.a).isSome = true then (withS s l.a (withinS (targetS n) l ((fieldS s l.a).getD zeroS)).1, (withinS (targetS n) l ((fieldS s l.a).getD zeroS)).2 && rightS 5 (withS s l.a (withinS (targetS n) l ((fieldS s l.a).getD zeroS)).1))
       else (s, false) := by rw [targetS, if_pos ⟨k5, hr5⟩]
    generalize (fieldS s l.a).isSome = ok at *
    generalize (fieldS s l.a).getD zeroS = a at *
    have haB : ∀ x, hasB a x = (fieldS a x).isSome := fun x => by
      cases ok with
      | true => obtain ⟨e, _, h⟩ := hAd rfl; exact hasB_eq x (.inl h)
      | false => rw [hAn rfl]; exact hasB_eq (d := 0) x (.inr (by decide))
    have haN : ok = false → ∀ x, fieldS a x = none := fun h x => by rw [hAn h]; exact field_zero x
    have tup : ∀ {b : Bool} {t : DSch}, b = true → (t, b && rightS 5 t) = (t, rightS 5 t) := fun h => by rw [h, Bool.true_and]
    obtain h | h | h | h | h | h | h | h | h | h : l.kind = 1 ∨ l.kind = 2 ∨ l.kind = 3 ∨ l.kind = 4 ∨ l.kind = 5 ∨ l.kind = 6 ∨ l.kind = 7 ∨ l.kind = 8 ∨ l.kind = 9 ∨ l.kind = 10 := by omega
    · rw [if_pos (by omega)] at eT
      refine fin_T (b := ok && !hasB s l.b) (t := withS (withoutS s l.a) l.b a) (by rw [swT, if_pos h]) (fun hb => ?_) (fun hb => ?_)
      · rw [eT, besideS, if_pos h, ← hsB]; exact tup hb
      · rw [eT, besideS, if_pos h, ← hsB]; show ((ok && !hasB s l.b) && _) = false; rw [hb]; rfl
    · rw [if_pos (by omega)] at eT
      refine fin_T (b := !ok) (t := withS s l.a l.typ) (by rw [swT, if_neg (by omega), if_pos h]; cases ok <;> rfl) (fun hb => ?_) (fun hb => ?_)
      · rw [eT, besideS, if_neg (by omega), if_pos h]; exact tup hb
      · rw [eT, besideS, if_neg (by omega), if_pos h]; show ((!ok) && _) = false; rw [hb]; rfl
    · rw [if_pos (by omega)] at eT
      refine fin_T (b := ok && eqB a l.typ) (t := withoutS s l.a) (by rw [swT, if_neg (by omega), if_neg (by omega), if_pos h]) (fun hb => ?_) (fun hb => ?_)
      · rw [eT, besideS, if_neg (by omega), if_neg (by omega), if_pos h]; exact tup hb
      · rw [eT, besideS, if_neg (by omega), if_neg (by omega), if_pos h]; show ((ok && eqB a l.typ) && _) = false; rw [hb]; rfl
    · rw [if_pos (by omega)] at eT
      have hnb := hne (by rw [uB, h]; rfl)
      have ec : (ok && (hasB a l.b && !hasB s l.b)) = ((fieldS a l.b).isSome && !(fieldS s l.b).isSome) := by
        rw [haB, hsB]
        cases ok with
        | true => rfl
        | false => rw [haN rfl]; rfl
      refine fin_T (b := ok && (hasB a l.b && !hasB s l.b)) (t := withS (withS s l.b ((fieldS a l.b).getD zeroS)) l.a (withoutS a l.b)) (by rw [swT, if_neg (by omega), if_neg (by omega), if_neg (by omega), if_pos h]) (fun hb => ?_) (fun hb => ?_)
      · rw [eT, besideS, if_neg (by omega), if_neg (by omega), if_neg (by omega), if_pos h]
        have hb2 := hb
        rw [ec] at hb2
        rw [Bool.and_eq_true, Bool.and_eq_true, hsB] at hb
        rw [with_with hw (hok hb.1) (hN _ (by simpa using hb.2.2)) hnb]
        exact tup hb2
      · rw [eT, besideS, if_neg (by omega), if_neg (by omega), if_neg (by omega), if_pos h, ← ec]; show ((ok && (hasB a l.b && !hasB s l.b)) && _) = false; rw [hb]; rfl
    · rw [if_pos (by omega)] at eT
      have hnb := hne (by rw [uB, h]; rfl)
      have ec : (ok && (hasB s l.b && (a.kind == 5 && !hasB a l.b))) = (ok && (fieldS s l.b).isSome && (a.kind == 5) && !(fieldS a l.b).isSome) := by
        rw [haB, hsB, Bool.and_assoc, Bool.and_assoc]
      refine fin_T (b := ok && (hasB s l.b && (a.kind == 5 && !hasB a l.b))) (t := withoutS (withS s l.a (withS a l.b ((fieldS s l.b).getD zeroS))) l.b) (by rw [swT, if_neg (by omega), if_neg (by omega), if_neg (by omega), if_neg (by omega), if_pos h]) (fun hb => ?_) (fun hb => ?_)
      · rw [eT, besideS, if_neg (by omega), if_neg (by omega), if_neg (by omega), if_neg (by omega), ← ec]
        have hb2 := hb
        rw [Bool.and_eq_true, Bool.and_eq_true, hsB] at hb
        rw [with_without hw (hok hb.1) (hA _ hb.2.1) hnb]
        exact tup hb2
      · rw [eT, besideS, if_neg (by omega), if_neg (by omega), if_neg (by omega), if_neg (by omega), ← ec]; show ((ok && (hasB s l.b && (a.kind == 5 && !hasB a l.b))) && _) = false; rw [hb]; rfl
    all_goals rw [if_neg (by omega)] at eT
    · refine fin_T (b := ok) (t := withS s l.a (.mk 6 [] [a])) (by rw [swT, if_neg (by omega), if_neg (by omega), if_neg (by omega), if_neg (by omega), if_neg (by omega), if_pos h]) (fun hb => ?_) (fun hb => ?_)
      · rw [eT, if_pos hb, withinS, if_pos h]; rfl
      · rw [eT, if_neg (by rw [hb]; decide)]
    · have e1 : ok = true → withinS (targetS n) l a = if a.kind = 6 then (a.parts.headD zeroS, true) else (a, false) := fun _ => by
        rw [withinS, if_neg (by omega), if_neg (by omega), if_neg (by omega)]
        split
        · first | rfl | rw [if_pos h]
        · rfl
      refine fin_T (b := ok && a.kind == 6) (t := withS s l.a (a.parts.headD zeroS)) (by rw [swT, if_neg (by omega), if_neg (by omega), if_neg (by omega), if_neg (by omega), if_neg (by omega), if_neg (by omega), if_pos h]) (fun hb => ?_) (fun hb => ?_)
      · rw [Bool.and_eq_true, beq_iff_eq] at hb
        rw [eT, if_pos hb.1, e1 hb.1, if_pos hb.2]; rfl
      · cases ok with
        | false => rw [eT, if_neg (by decide)]
        | true =>
          rw [Bool.true_and, beq_eq_false_iff_ne] at hb
          rw [eT, if_pos rfl, e1 rfl, if_neg hb]; rfl
    · have hp : (!(l.pairs.any fun p => !fitsTop p.1 a)) = l.pairs.all (fun p => fitsTop p.1 a) := any_all _ _ _ fun x => rfl
      have e1 : withinS (targetS n) l a = (l.typ, !decide (a.kind > 4) && (fitsTop l.back a && l.pairs.all (fun p => fitsTop p.1 a))) := by
        rw [withinS, if_neg (by omega), if_pos h, hp]
        congr 1
        cases hf : fitsTop l.back a with
        | false => simp
        | true =>
          have := fits_kind hf
          rw [scaS, decide_eq_true this, Bool.true_and, Bool.and_true, Bool.true_and, ← decide_not]
          congr 1
          exact decide_eq_decide.2 (by omega)
      refine fin_T (b := ok && (!decide (a.kind > 4) && (fitsTop l.back a && l.pairs.all (fun p => fitsTop p.1 a)))) (t := withS s l.a l.typ) (by rw [swT, if_neg (by omega), if_neg (by omega), if_neg (by omega), if_neg (by omega), if_neg (by omega), if_neg (by omega), if_neg (by omega), if_pos h]) (fun hb => ?_) (fun hb => ?_)
      · rw [Bool.and_eq_true] at hb
        rw [eT, if_pos hb.1, e1]; exact tup hb.2
      · cases ok with
        | false => rw [eT, if_neg (by decide)]
        | true =>
          rw [Bool.true_and] at hb
          rw [eT, if_pos rfl, e1]; show (_ && _) = false; rw [hb]; rfl
    · have e1 : withinS (targetS n) l a = targetS n (l.inner.headD zeroL) a := by rw [withinS, if_neg (by omega), if_neg (by omega), if_pos h]
      obtain ⟨k', hi, _⟩ := hl.inner (by rw [uI, h]; rfl)
      have hrc : ok = true → refT n (l.inner.headD zeroL) a = goT (targetS n (l.inner.headD zeroL) a) := fun h0 => by
        obtain ⟨e, he, hra⟩ := hAd h0
        exact ih k' _ e a hi (by omega) hra hAk
      refine fin_T (b := ok && (refT n (l.inner.headD zeroL) a).2) (t := withS s l.a (refT n (l.inner.headD zeroL) a).1) (by rw [swT, if_neg (by omega), if_neg (by omega), if_neg (by omega), if_neg (by omega), if_neg (by omega), if_neg (by omega), if_neg (by omega), if_neg (by omega), if_pos h]) (fun hb => ?_) (fun hb => ?_)
      · rw [Bool.and_eq_true] at hb
        have h2 := hb.2
        rw [hrc hb.1, goT_2] at h2
        rw [eT, if_pos hb.1, e1, hrc hb.1, goT_1 h2]; exact tup h2
      · cases ok with
        | false => rw [eT, if_neg (by decide)]
        | true =>
          rw [Bool.true_and, hrc rfl, goT_2] at hb
          rw [eT, if_pos rfl, e1]; show (_ && _) = false; rw [hb]; rfl
    · have e1 : a.kind = 6 → withinS (targetS n) l a = ((.mk 6 [] [(targetS n (l.inner.headD zeroL) (a.parts.headD zeroS)).1] : DSch), (targetS n (l.inner.headD zeroL) (a.parts.headD zeroS)).2) := fun h6 => by rw [withinS, if_neg (by omega), if_neg (by omega), if_neg (by omega), if_pos h6, if_neg (by omega)]
      have e2 : a.kind ≠ 6 → withinS (targetS n) l a = (a, false) := fun h6 => by rw [withinS, if_neg (by omega), if_neg (by omega), if_neg (by omega), if_neg h6]
      obtain ⟨k', hi, _⟩ := hl.inner (by rw [uI, h]; rfl)
      have hrc : ok = true → a.kind = 6 → refT n (l.inner.headD zeroL) (a.parts.headD zeroS) = goT (targetS n (l.inner.headD zeroL) (a.parts.headD zeroS)) := fun h0 h6 => by
        obtain ⟨e, he, hra⟩ := hAd h0
        cases e with
        | zero => cases hra
        | succ e =>
          rw [rightS] at hra
          simp only [Bool.and_eq_true, List.all_eq_true] at hra
          have hm := headS_mem ((plainS_len hra.1).2.2.1 h6)
          exact ih k' _ e _ hi (by omega) (hra.2 _ hm) (((okS_eq a).1 hAk).2.2.2.2 _ hm)
      refine fin_T (b := ok && (a.kind == 6 && (refT n (l.inner.headD zeroL) (a.parts.headD zeroS)).2)) (t := withS s l.a (.mk 6 [] [(refT n (l.inner.headD zeroL) (a.parts.headD zeroS)).1])) (by rw [swT, if_neg (by omega), if_neg (by omega), if_neg (by omega), if_neg (by omega), if_neg (by omega), if_neg (by omega), if_neg (by omega), if_neg (by omega), if_neg (by omega)]) (fun hb => ?_) (fun hb => ?_)
      · rw [Bool.and_eq_true, Bool.and_eq_true, beq_iff_eq] at hb
        have h2 := hb.2.2
        rw [hrc hb.1 hb.2.1, goT_2] at h2
        rw [eT, if_pos hb.1, e1 hb.2.1, hrc hb.1 hb.2.1, goT_1 h2]; exact tup h2
      · cases ok with
        | false => rw [eT, if_neg (by decide)]
        | true =>
          rw [Bool.true_and] at hb
          by_cases h6 : a.kind = 6
          · have e6 : (a.kind == 6) = true := by simp [h6]
            rw [e6, Bool.true_and, hrc rfl h6, goT_2] at hb
            rw [eT, if_pos rfl, e1 h6]; show (_ && _) = false; rw [hb]; rfl
          · rw [eT, if_pos rfl, e2 h6]; rfl
theorem refTarget_d (l:DLens) (s:DSch) (hr:roomL 8 l=true) (hok:okL l) (hR:rightL 5 l=true) (hs:rightS 5 s=true) (hsk:okS s):DPure Tryz.prog 51 [encL l,encS s] (tupBs (goT (targetS 5 l s))):=by
 rw [← refT_eq 5 8 l 5 s ⟨hr,hok,hR⟩ (Nat.le_refl _) hs hsk]
 exact target14_d 5 8 l 5 s ⟨hr,hok,hR⟩ (Nat.le_refl _) (.inl hs) hsk (Nat.le_trans (rightS_wB 5 s hs) (wB_le5 (Nat.le_refl _)))
structure OkR (vs:List DVer):Prop where
 wf:WfR vs
 pos:0<vs.length
 sch:∀ v∈vs,okS v.sch∧rightS 5 v.sch=true
 lens:∀ v∈vs,okL v.lens∧roomL 8 v.lens=true
theorem tgS_ok {k:Nat} {l:DLens} {s:DSch} (hk:roomL k l=true) (hok:okL l) (hr:rightS 5 s=true) (hsk:okS s):okS (tgS l s).1:=by
 unfold tgS
 split
 ·rename_i h1
  split
  ·exact (targetS_wt 5 5 k l s ⟨hk,hok,h1⟩ (Nat.le_refl _) hr hsk).1
  ·exact zeroS_ok
 ·exact zeroS_ok
theorem okR_root {root:H32} {s:DSch} (hs:okS s) (hr:rightS 5 s=true):OkR [rootV root s] :=
 ⟨wfR_root root s,Nat.one_pos,fun v hv=>by obtain rfl:=List.mem_singleton.1 hv;exact ⟨hs,hr⟩,fun v hv=>by obtain rfl:=List.mem_singleton.1 hv;exact ⟨okL_zero,show roomL 8 zeroL=true by decide⟩⟩
theorem wfR_snoc {vs:List DVer} {v:DVer} (h:WfR vs) (hn:findR vs v.name=none) (h0:0≤v.up) (h1:v.up<(vs.length:Int)):WfR (vs++[v]):=by
 refine ⟨fun i hi=>?_,?_⟩
 ·by_cases hl:i<vs.length
  ·rw [upOf_snoc hl];exact h.up i hl
  ·obtain rfl:i=vs.length:=by simp only [List.length_append,List.length_singleton] at hi;omega
   rw [upOf_last]
   exact ⟨fun e=>by omega,fun _=>⟨h0,h1⟩⟩
 ·rw [List.map_append,List.nodup_append]
  refine ⟨h.nodup,by simp,fun x hx y hy e=>?_⟩
  obtain rfl:=List.mem_singleton.1 hy
  obtain ⟨i,hi,rfl⟩:=List.getElem_of_mem hx
  rw [List.getElem_map] at e
  exact findR_none hn i (by simpa using hi) e
theorem addR_cases (vs:List DVer) (name from_:H32) (l:DLens) (tg:DSch→DSch × Int) :
  ((addR vs name from_ l tg).1=vs∧(addR vs name from_ l tg).2 ≠ 0)∨∃ k,∃ hk:k<vs.length,findR vs from_=some k∧findR vs name=none∧(tg vs[k].sch).2=0∧addR vs name from_ l tg=(vs++[⟨name,(k:Int),l,(tg vs[k].sch).1⟩],0):=by
 unfold addR
 cases hf:findR vs from_ with
 | none=>exact .inl ⟨rfl,show (7:Int) ≠ 0 by decide⟩
 | some k =>
  obtain ⟨hk,_⟩:=findR_some hf
  have e:(vs[k]?.map (·.sch)).getD zeroS=vs[k].sch:=by simp [hk]
  simp only [e]
  by_cases h1:(findR vs name).isSome=true
  ·rw [if_pos h1];exact .inl ⟨rfl,show (8:Int) ≠ 0 by decide⟩
  ·rw [if_neg h1]
   by_cases h2:(tg vs[k].sch).2 ≠ 0
   ·rw [if_pos h2];exact .inl ⟨rfl,h2⟩
   ·rw [if_neg h2]
    exact .inr ⟨k,hk,rfl,by simpa using h1,by simpa using h2,rfl⟩
theorem addR_ok {vs:List DVer} (h:OkR vs) (name from_:H32) (l:DLens) (hl:okL l) (hr:roomL 8 l=true):OkR (addR vs name from_ l (tgS l)).1:=by
 rcases addR_cases vs name from_ l (tgS l) with ⟨e,_⟩ | ⟨k,hk,hf,hn,ht,e⟩
 ·rw [e];exact h
 ·rw [e]
  have hs:=h.sch _ (List.getElem_mem hk)
  refine ⟨wfR_snoc h.wf hn (by show (0:Int)≤(k:Int);omega) (by show (k:Int)<_;omega),by simp,fun v hv=>?_,fun v hv=>?_⟩
  ·rcases List.mem_append.1 hv with hv | hv
   ·exact h.sch v hv
   ·obtain rfl:=List.mem_singleton.1 hv
    exact ⟨tgS_ok hr hl hs.2 hs.1,tgS_right ht⟩
  ·rcases List.mem_append.1 hv with hv | hv
   ·exact h.lens v hv
   ·obtain rfl:=List.mem_singleton.1 hv
    exact ⟨hl,hr⟩
theorem add_d {S:St} {k:Nat} {F:Nat→Prop} {vs:List DVer} (hr:RegAt k F vs S) (hw:OkR vs) (hl:vs.length≤1000000) (name from_:H32) (l:DLens) (hrm:roomL 8 l=true) (hok:okL l) :
  DCalls Tryz.prog 20 [.loc k 0,encH name,encH from_,encL l] S (fun d T=>d=erO' (addR vs name from_ l (tgS l)).2∧∃ F',RegAt k F' (addR vs name from_ l (tgS l)).1 T∧(∀ q,F' q→F q∨S.next≤q)∧FrN F S T) :=
 add_at hr hw.wf hw.pos hl name from_ l hrm hok (tgS l) fun i hi=>Target_d 8 l 5 _ hrm hok (Nat.le_refl _) (hw.sch _ (List.getElem_mem hi)).2 (hw.sch _ (List.getElem_mem hi)).1
/-! The document's example. -/
def rgH (x:UInt8):H32:=⟨x::List.replicate 31 0,rfl⟩
def awS:DSch:=.mk 5 [[97]] [.mk 2 [] []]
def awL:DLens:=.mk 6 [97] [] zeroS zeroV0 zeroV0 [] []
def awT:DSch:=.mk 5 [[97]] [.mk 6 [] [.mk 2 [] []]]
def aw0:List DVer:=[rootV (rgH 1) awS]
def aw1:List DVer:=aw0++[⟨rgH 2,0,awL,awT⟩]
def aw2:List DVer:=aw1++[⟨rgH 3,0,awL,awT⟩]
theorem eqB_self {α:Type} (a:α):eqB a a=true:=by simp [eqB]
theorem aw_right:rightL 5 awL=true:=by
 have h0:zeroB (uB 6) (uT 6) (uK 6) (uI 6) awL=true:=by
  simp only [zeroB,awL,DLens.b,DLens.typ,DLens.base,DLens.back,DLens.pairs,DLens.inner,eqB_self]
  rfl
 have h1:headL awL=true:=by
  have h0':zeroB (uB awL.kind) (uT awL.kind) (uK awL.kind) (uI awL.kind) awL=true:=h0
  have hn:nameB awL.a=true:=by decide
  rw [headL,h0',hn]
  rfl
 rw [rightL,h1]
 rfl
theorem aw_rS:rightS 5 awS=true:=by decide
theorem aw_rT:rightS 5 awT=true:=by decide
theorem aw_tg:tgS awL awS=(awT,0):=by
 have hw:withinS (targetS 4) awL (.mk 2 [] [])=(.mk 6 [] [.mk 2 [] []],true):=by rw [withinS,if_pos (show awL.kind=6 from rfl)]
 have ht:targetS 5 awL awS=(awT,true):=by
  rw [targetS,if_pos ⟨rfl,aw_rS⟩,if_neg (by decide)]
  have hf:fieldS awS awL.a=some (.mk 2 [] []):=rfl
  rw [hf]
  simp only [Option.isSome_some,if_true,Option.getD_some,hw]
  rw [show withS awS awL.a (.mk 6 [] [.mk 2 [] []])=awT from rfl,aw_rT]
  rfl
 rw [tgS,if_pos aw_right,ht,if_pos rfl]
theorem aw_add1:addR aw0 (rgH 2) (rgH 1) awL (tgS awL)=(aw1,0):=by
 have h1:findR aw0 (rgH 1)=some 0:=by decide
 have h2:findR aw0 (rgH 2)=none:=by decide
 have h3:(aw0[0]?.map (·.sch)).getD zeroS=awS:=rfl
 simp only [addR,h1,h2,h3,aw_tg]
 rfl
theorem aw_add2:addR aw1 (rgH 3) (rgH 1) awL (tgS awL)=(aw2,0):=by
 have h1:findR aw1 (rgH 1)=some 0:=by decide
 have h2:findR aw1 (rgH 3)=none:=by decide
 have h3:(aw1[0]?.map (·.sch)).getD zeroS=awS:=rfl
 simp only [addR,h1,h2,h3,aw_tg]
 rfl
theorem aw_findA:findR aw2 (rgH 2)=some 1:=by decide
theorem aw_findB:findR aw2 (rgH 3)=some 2:=by decide
theorem aw_out1:outW aw2 1=[(1,0),(0,2)]:=by decide
theorem aw_out2:outW aw2 2=[(2,0),(0,1)]:=by decide
def awF (i:Nat):Nat:=[1,0,2].getD i 0
theorem aw_f:∀ i,i<2→awF i ≠ 2∧awF i<aw2.length∧(befN aw2.length (outW aw2 2)).getD (awF i) 0=awF (i+1):=by
 rw [aw_out2]
 intro i hi
 have:i=0∨i=1:=by omega
 rcases this with rfl | rfl <;> decide
theorem aw_pth:pthN aw2 awF 2=[rgH 2,rgH 1,rgH 3]:=by rfl
theorem awS_ok:okS awS:=by
 simp only [awS,okS,okSs,I64,List.not_mem_nil,false_implies,implies_true,true_and,and_true]
 decide
theorem awL_ok:okL awL:=by
 simp only [awL,zeroS,zeroV0,okL,okLs,okS,okSs,okV,okVs,I64,List.not_mem_nil,false_implies,implies_true,true_and,and_true]
 decide
theorem awL_room:roomL 8 awL=true:=by decide
section
variable {P : Program} {w : World} {η : Names} {X X' : Nat → Nat → Prop}
end
theorem dpure_nil {P:Program} {g:FuncId} {args:List D} {x:Value} (hc:allL (fun _=>False) args) (h:DAt P g args St.nil (.v x)):DPure P g args (.v x):=fun S base η w vs hM hr=>by
 have hg:GlobOk w.heap.size w:=fun p hp=>⟨Nat.lt_of_lt_of_le (hM.glob p hp).1 hM.base_,(hM.glob p hp).2⟩
 have K:Keep (fun _=>False) w η (Fix P S η) w (fun _=>none) (Fix P St.nil fun _=>none):=⟨Nat.le_refl _,fun b i _ _=>⟨fix_nil b i,rfl⟩,fun _ _ h=>h.elim,fun _ cur _ h=>⟨cur,h,rfl⟩⟩
 rcases h w.heap.size _ w vs (mem_nil w hg) (RepL.keep K hc hr) with ⟨h1,k⟩ | ⟨d,S',η',u,w',k,⟨rfl,_⟩,h3,h4⟩
 ·refine .inl ⟨h1,k.mono fun _ _ ⟨d,S',η',u,⟨h1,_⟩,h2,h3,h4⟩=>?_⟩
  subst h1
  simp only [Rep] at h3
  subst h3
  exact ⟨.v _,S,η,_,⟨rfl,rfl⟩,h2,by simp only [Rep],goes_below hM h4.below h4.drawn⟩
 ·simp only [Rep] at h3
  subst h3
  exact .inr ⟨.v _,S,η,_,w',k,⟨rfl,rfl⟩,by simp only [Rep],goes_below hM h4.below h4.drawn⟩
theorem placeR:placeT Tryz.prog 39=some fun i=>some (i * 1,1):=by kernel_rfl
theorem rnil_ne (k:Nat):dbin Tryz.prog .neq 66 (.tmp k) (.const .nilIface) (.v .nilIface) (.v .nilIface)=some (True,.v (.bool false)):=by kernel_rfl
theorem rnil_eq (k:Nat):dbin Tryz.prog .eql 66 (.tmp k) (.const .nilIface) (.v .nilIface) (.v .nilIface)=some (True,.v (.bool true)):=by kernel_rfl
theorem dcalls_argEq {P:Program} {g:FuncId} {args args':List D} {S:St} {K:D→St→Prop} (e:frzL args=args') (h:DCalls P g args' S K):DCalls P g args S K:=dcalls_argfz (e ▸ h)
abbrev DEd:=H32 × H32 × Bool
def edVs (e:DEd):List Value:=e.1.1.map bV++(e.2.1.1.map bV++[.bool e.2.2])
def encEd (e:DEd):D:=.agg (e.1.1.map bD++(e.2.1.1.map bD++[.v (.bool e.2.2)]))
theorem vals_appL:∀ (a:List UInt8) {b:List D} {vs:List Value},vals b=some vs→vals (a.map bD++b)=some (a.map bV++vs)
 | [],b,vs,h=>h
 | x::a,b,vs,h=>by
  have:=vals_appL a h
  simp only [List.map_cons,List.cons_append]
  simp [vals,bD,bV,this] at this ⊢
  try rw [this]
theorem vals_ed (e:DEd):vals (e.1.1.map bD++(e.2.1.1.map bD++[.v (.bool e.2.2)]))=some (edVs e):=vals_appL _ (vals_appL _ rfl)
theorem valsEq_app:∀ {a b:List Value} {c d:List Value},a.length=b.length→valsEq (a++c) (b++d)=(valsEq a b && valsEq c d)
 | [],[],c,d,_=>by simp [valsEq]
 | [],_::_,_,_,h=>by simp at h
 | _::_,[],_,_,h=>by simp at h
 | x::a,y::b,c,d,h=>by
  have ih:=valsEq_app (a:=a) (b:=b) (c:=c) (d:=d) (by simpa using h)
  simp only [List.cons_append,valsEq,ih,Bool.and_assoc]
theorem valsEq_ed (a b:DEd):valsEq (edVs a) (edVs b)=decide (a=b):=by
 obtain ⟨a1,a2,a3⟩:=a
 obtain ⟨b1,b2,b3⟩:=b
 have h1:(a1.1.map bV).length=(b1.1.map bV).length:=by rw [List.length_map,List.length_map,a1.2,b1.2]
 have h2:(a2.1.map bV).length=(b2.1.map bV).length:=by rw [List.length_map,List.length_map,a2.2,b2.2]
 simp only [edVs]
 rw [valsEq_app h1,valsEq_app h2,valsEq_hash,valsEq_hash]
 rw [Bool.eq_iff_iff]
 simp [valsEq,cellEq]
theorem part_e1 (m:DEd) (w:World):(part 39 (edVs m).toArray 0).run Tryz.prog w=.ok (.agg (m.1.1.map bV).toArray) w:=by
 have h:(isAgg 39).run Tryz.prog w=.ok true w:=by kernel_rfl
 have h2:(Go.sizeOf 39).run Tryz.prog w=.ok 32 w:=by kernel_rfl
 simp [part,Sem.run_bind,h,h2]
 rw [edVs,List.take_append_of_le_length (by rw [List.length_map,m.1.2];omega),List.take_of_length_le (by rw [List.length_map,m.1.2];omega)]
theorem part_e2 (m:DEd) (w:World):(part 39 (edVs m).toArray 32).run Tryz.prog w=.ok (.agg (m.2.1.1.map bV).toArray) w:=by
 have h:(isAgg 39).run Tryz.prog w=.ok true w:=by kernel_rfl
 have h2:(Go.sizeOf 39).run Tryz.prog w=.ok 32 w:=by kernel_rfl
 have l1:=m.1.2
 have l2:=m.2.1.2
 simp [part,Sem.run_bind,h,h2]
 rw [edVs,List.drop_append,List.drop_of_length_le (by rw [List.length_map];omega),List.length_map,l1,List.nil_append,Nat.sub_self,List.drop_zero,List.take_append_of_le_length (by rw [List.length_map];omega),List.take_of_length_le (by rw [List.length_map];omega)]
theorem part_e3 (m:DEd) (w:World):(part 4 (edVs m).toArray 64).run Tryz.prog w=.ok (.bool m.2.2) w:=by
 have h:(isAgg 4).run Tryz.prog w=.ok false w:=by kernel_rfl
 have l1:=m.1.2
 have l2:=m.2.1.2
 have e:(List.map bV m.fst.val++(List.map bV m.snd.fst.val++[Value.bool m.snd.snd]))[64]? = some (Value.bool m.snd.snd):=by
  rw [List.getElem?_append_right (by rw [List.length_map];omega),List.getElem?_append_right (by rw [List.length_map,List.length_map];omega),List.length_map,List.length_map,l1,l2]
  rfl
 simp [part,Sem.run_bind,h,edVs,e]
theorem equalIn_ed (a b:DEd) (w:World):(Op.equalIn 10000 59 (.agg (edVs a).toArray) (.agg (edVs b).toArray)).run Tryz.prog w=.ok (decide (a=b)) w:=by
 rw [run_equalIn_agg w 9999 59 _ _ (by kernel_rfl) (by kernel_rfl)]
 have hf:(Tryz.prog.fieldsOf 59).toList.map (fun f=>(f.type,f.offset,decide (f.name ≠ "_")))=[(39,0,true),(39,32,true),(4,64,true)]:=by kernel_rfl
 generalize (Tryz.prog.fieldsOf 59).toList=fs at hf ⊢
 have hl:fs.length=3:=by simpa using congrArg List.length hf
 match fs,hl with
 | [f,g,h],_ =>
  simp only [List.map_cons,List.map_nil,List.cons.injEq,Prod.mk.injEq,and_true] at hf
  obtain ⟨⟨f1,f2,f3⟩,⟨g1,g2,g3⟩,h1,h2,h3⟩:=hf
  have f3':=of_decide_eq_true f3
  have g3':=of_decide_eq_true g3
  have h3':=of_decide_eq_true h3
  simp only [Op.eqFields,f3',g3',h3',Sem.run_bind,Sem.run_ite,f1,f2,g1,g2,h1,h2,part_e1,part_e2,part_e3,Result.andThen_ok,run_equalIn_bool w 9998 4 _ _ Tryz.underlying4,equalIn_hash 9997,ne_eq,not_false_eq_true,if_true]
  obtain ⟨a1,a2,a3⟩:=a
  obtain ⟨b1,b2,b3⟩:=b
  by_cases e1:a1=b1
  ·subst e1
   by_cases e2:a2=b2
   ·subst e2
    by_cases e3:a3=b3
    ·subst e3;simp
    ·simp [e3]
   ·simp [e2]
  ·simp [e1]
theorem eqOk_ed {x y:Operand} (a b:DEd):EqOk Tryz.prog .eql 59 x y (edVs a) (edVs b) (decide (a=b))∧EqOk Tryz.prog .neq 59 x y (edVs a) (edVs b) (!decide (a=b)):=by
 constructor <;> intro w
 ·rw [Sem.run_bind,run_eqGuard_agg w _ _ _ _ _ _ (by kernel_rfl),Result.andThen_ok,run_eql_struct,equalIn_ed a b w,Result.andThen_ok]
 ·rw [Sem.run_bind,run_eqGuard_agg w _ _ _ _ _ _ (by kernel_rfl),Result.andThen_ok,run_neq_struct,equalIn_ed a b w,Result.andThen_ok]
theorem bin_eqE {x y:Operand} (a b:DEd):dbin Tryz.prog .eql 59 x y (encEd a) (encEd b)=some (EqOk Tryz.prog .eql 59 x y (edVs a) (edVs b) (decide (a=b)),.v (.bool (decide (a=b)))):=by
 simp only [dbin,encEd,vals_ed,dbinA,valsEq_ed]
theorem onVal_eqE {x y:Operand} {K:D→Prop} (a b:DEd):onVal (dbin Tryz.prog .eql 59 x y (encEd a) (encEd b)) K=K (.v (.bool (decide (a=b)))):=by
 rw [bin_eqE,onVal_some];exact propext ⟨fun h=>h.2,fun h=>⟨(eqOk_ed a b).1,h⟩⟩
theorem onVal_eE {x y:Operand} {K:D→Prop} {p q:D} (a b:DEd) (hp:p=encEd a) (hq:q=encEd b) (k:K (.v (.bool (decide (a=b))))):onVal (dbin Tryz.prog .eql 59 x y p q) K:=by
 rw [hp,hq,onVal_eqE];exact k
section
set_option maxRecDepth 200000
set_option maxHeartbeats 8000000
theorem awake20_d:DPure Tryz.prog 10 [] (.v (.bool true)):=by
 refine dpure_nil (by trivial) (dat_of_dwpL mixed Tryz.func10 rfl (fun _ _=>by kernel_rfl) (rs:=[.tmp 0]) rfl (by kernel_rfl) (by trivial) (fun hS=>?_))
 (refine dd1 @placeR ?_)
 generalize hX:St.set (St.set (St.set (St.add (St.add (St.add (St.set (St.add St.nil _) _ _) _) _) _) _ _) _ _) _ _=S1
 have hn1:S1.next=St.nil.next+4:=by rw [← hX];rfl
 have hW1:S1.WF:=by rw [← hX];exact wfA
 have b1:S1.ob (St.nil.next+1)=some (.box 39 ((rgH 1).1.map bD)):=by rw [← hX];exact di0
 have b2:S1.ob (St.nil.next+1+1)=some (.box 39 ((rgH 2).1.map bD)):=by rw [← hX];exact di0
 have b3:S1.ob (St.nil.next+1+1+1)=some (.box 39 ((rgH 3).1.map bD)):=by rw [← hX];exact di0
 clear hX
 have l1:=(rgH 1).2
 have l2:=(rgH 2).2
 have l3:=(rgH 3).2
 refine dcalls_argEq (args':=[encH (rgH 1),encS awS]) (by kernel_rfl) ?_
 refine DCalls.mono (DCalls.wf (new_a (rgH 1) awS awS_ok (by decide))) ?_
 rintro d T0 ⟨⟨hd,hs0⟩,hT0⟩
 rw [if_pos ⟨rfl,aw_rS⟩] at hd
 obtain ⟨k,F0,rfl,hr0,hF0⟩:=hd
 have b1:=hs0.ob _ _ b1
 have b2:=hs0.ob _ _ b2
 have b3:=hs0.ob _ _ b3
 (refine dd7 @rnil_ne @b1 @b2 @b3 @l1 @l2 @l3 ?_)
 have hn0:=hs0.next
 have w0:OkR aw0:=okR_root awS_ok aw_rS
 have w1:OkR aw1:=by have h:=addR_ok w0 (rgH 2) (rgH 1) awL awL_ok awL_room;rw [aw_add1] at h;exact h
 have ez:erO' 0=.v .nilIface:=rfl
 refine dcalls_argEq (args':=[.loc k 0,encH (rgH 2),encH (rgH 1),encL awL]) (by kernel_rfl) ?_
 refine DCalls.mono (DCalls.wf (add_d hr0 w0 (by decide) (rgH 2) (rgH 1) awL awL_room awL_ok)) ?_
 rintro d T1 ⟨⟨rfl,F1,hr1,hF1,hfr1⟩,hT1⟩
 rw [show addR [rootV (rgH 1) awS] (rgH 2) (rgH 1) awL (tgS awL)=(aw1,0) from aw_add1] at hr1 ⊢
 have b1:=hfr1.ob _ _ (fun h=>by have:=hF0 _ h;omega) b1
 have b2:=hfr1.ob _ _ (fun h=>by have:=hF0 _ h;omega) b2
 have b3:=hfr1.ob _ _ (fun h=>by have:=hF0 _ h;omega) b3
 have hF1':∀ q,F1 q→S1.next≤q:=fun q h=>by
  rcases hF1 q h with h | h
  ·exact hF0 q h
  ·omega
 have hn1':=hfr1.next
 (refine dd7 @ez @b1 @b2 @b3 @l1 @l2 @l3 ?_)
 refine dcalls_argEq (args':=[.loc k 0,encH (rgH 3),encH (rgH 1),encL awL]) (by kernel_rfl) ?_
 refine DCalls.mono (DCalls.wf (add_d hr1 w1 (by decide) (rgH 3) (rgH 1) awL awL_room awL_ok)) ?_
 rintro d T2 ⟨⟨rfl,F2,hr2,hF2,hfr2⟩,hT2⟩
 rw [aw_add2] at hr2 ⊢
 have b1:=hfr2.ob _ _ (fun h=>by have:=hF1' _ h;omega) b1
 have b2:=hfr2.ob _ _ (fun h=>by have:=hF1' _ h;omega) b2
 have b3:=hfr2.ob _ _ (fun h=>by have:=hF1' _ h;omega) b3
 (refine dd7 @ez @b1 @b2 @b3 @l1 @l2 @l3 ?_)
 refine DCalls.mono (DCalls.wf (path_at hr2 (by decide) aw_findA aw_findB 2 awF (by decide) rfl rfl aw_f)) ?_
 rintro d T3 ⟨⟨own3,rfl,hs3⟩,hT3⟩
 have b1:=hs3.ob _ _ b1
 have b2:=hs3.ob _ _ b2
 have b3:=hs3.ob _ _ b3
 have hr3:=hr2.sub hs3
 rw [aw_pth]
 (refine dd6 @b1 @b2 @b3 @l1 @l2 @l3 ?_)
 refine DCalls.mono (DCalls.wf (out_at hr3 (by decide) aw_findA)) ?_
 rintro d T4 ⟨⟨⟨own4,rfl⟩,hs4⟩,hT4⟩
 have b1:=hs4.ob _ _ b1
 have b2:=hs4.ob _ _ b2
 have b3:=hs4.ob _ _ b3
 rw [aw_out1]
 (refine dd6 @b1 @b2 @b3 @l1 @l2 @l3 ?_)
 refine ddraw_mk 41 (by kernel_rfl) ?_
 (refine dd8 @rnil_eq @ez @b1 @b2 @b3 @l1 @l2 @l3 ?_)
 refine dqgo_mk (hashes_d own3 .full [rgH 2,rgH 1,rgH 3] [rgH 2,rgH 1,rgH 3] (by decide)) ?_
 have c1:decide (([rgH 2,rgH 1,rgH 3]:List H32)=[rgH 2,rgH 1,rgH 3])=true:=decide_eq_true rfl
 have c2:(((2:Nat):Int) == 2)=true:=by decide
 (refine dd14 @c1 @c2 @rnil_eq @ez @b1 @b2 @b3 @l1 @l2 @l3 @List.map_cons.{0,0} @List.map_nil.{0,0} @List.length_cons.{0} @List.length_nil.{0} ?_)
 refine ⟨⟨by decide,by kernel_rfl⟩,Nat.le_of_ble_eq_true (by kernel_rfl),Nat.le_of_ble_eq_true (by kernel_rfl),onVal_eE (rgH 2,rgH 1,false) (rgH 2,rgH 1,false) (by kernel_rfl) (by kernel_rfl) ?_⟩
 have c3:decide (((rgH 2,rgH 1,false):DEd)=(rgH 2,rgH 1,false))=true:=decide_eq_true rfl
 rw [c3]
 (refine dd14 @c1 @c2 @rnil_eq @ez @b1 @b2 @b3 @l1 @l2 @l3 @List.map_cons.{0,0} @List.map_nil.{0,0} @List.length_cons.{0} @List.length_nil.{0} ?_)
 refine ⟨⟨by decide,by decide,by kernel_rfl⟩,Nat.le_of_ble_eq_true (by kernel_rfl),⟨Nat.le_of_ble_eq_true (by kernel_rfl),Nat.le_of_ble_eq_true (by kernel_rfl)⟩,onVal_eE (rgH 1,rgH 3,true) (rgH 1,rgH 3,true) (by kernel_rfl) (by kernel_rfl) ?_⟩
 have c4:decide (((rgH 1,rgH 3,true):DEd)=(rgH 1,rgH 3,true))=true:=decide_eq_true rfl
 rw [c4]
 (refine dd0 ?_)
 exact ⟨rfl,⟨Nat.zero_le _,fun _ _ h=>by cases h⟩⟩
end
structure RVer where
 name:H32
 frm:H32
 lens:DLens
 sch:DSch
def rvCs (v:RVer):List D:=v.name.1.map bD++(v.frm.1.map bD++((encL v.lens).cells++(encS v.sch).cells))
def encRV (v:RVer):D:=.agg (rvCs v)
theorem rvCs_len (v:RVer):(rvCs v).length=87:=by
 have h1:=len_encH v.name
 have h2:=len_encH v.frm
 have h3:=cells_encL v.lens
 have h4:=cells_encS v.sch
 simp only [rvCs,List.length_append,h1,h2,h3,h4]
theorem cl_RV (v:RVer):(encRV v).cells.length=87:=rvCs_len v
theorem width_RV (v:RVer):(encRV v).width=87:=rvCs_len v
theorem okCell_RV (v:RVer):(encRV v).okCell=true:=rfl
theorem rv_name (v:RVer):D.agg ((encRV v).cells.take 32)=encH v.name:=by
 have h1:=len_encH v.name
 show D.agg ((rvCs v).take 32)=_
 rw [rvCs,List.take_append_of_le_length (by omega),List.take_of_length_le (by omega)]
 rfl
theorem rv_sch (v:RVer):((encRV v).cells.drop 84).take 3=(encS v.sch).cells:=by
 have h1:=len_encH v.name
 have h2:=len_encH v.frm
 have h3:=cells_encL v.lens
 have h4:=cells_encS v.sch
 show ((rvCs v).drop 84).take 3=_
 rw [rvCs,List.drop_append,List.drop_of_length_le (by omega),h1,List.nil_append,List.drop_append,List.drop_of_length_le (by omega),h2,List.nil_append,List.drop_append,List.drop_of_length_le (by omega),h3,List.nil_append,List.drop_zero,List.take_of_length_le (by omega)]
theorem elRV:elT Tryz.prog 32=some 49:=by kernel_rfl
theorem szRV:szOf Tryz.prog 49=87:=by kernel_rfl
theorem byRV:bytesOf Tryz.prog 49≤1000:=by decide +kernel
theorem zeRV:zeroT Tryz.prog 49=true:=by kernel_rfl
attribute [local go_sem] cl_RV okCell_RV
section
set_option maxRecDepth 200000
set_option maxHeartbeats 8000000
def ixR (rs:List RVer) (h:H32):Int:=ixOf (fun v:RVer=>decide (v.name=h)) rs
theorem findRV_d (own:Own) (rs:List RVer) (h:H32) (hl:rs.length≤1000000):DPure Tryz.prog 27 [.sl own (rs.map encRV),encH h] (.v (.int .i64 (ixR rs h))):=by
 refine dpure_of_dwp mixed Tryz.func27 rfl (fun _ _=>by kernel_rfl) (rs:=[.tmp 4]) rfl (by kernel_rfl) trivial (fun S hS=>?_)
 have lh:=h.2
 (refine dd1 @lh ?_)
 (refine dloop_st (fun t=>List.contains [4,5,6,7,8,9,10,11,12,13,14,15,16,17,18,19] t) (by kernel_rfl) ?_ (rs.length) (fun i f=>i≤rs.length∧f 5=.v (.int .i64 ((i:Nat):Int))∧(∀ j (hj:j<rs.length),j<i→decide (rs[j].name=h)=false)) ?_ ?_;(exact wfA);(exact ⟨(by omega),(by exact di0),(fun j _ h=>absurd h (by omega))⟩);intro i g tn hn hT hg hI;obtain ⟨le,q5,hs⟩:=hI;have q0:=hg 0 rfl;have q3:=hg 3 rfl;simp (disch:=first | decide | omega | (simp only [nx];first | done | omega)) only [go_sem] at q0 q3;clear hg;have hn':=hn;try simp only [add_next,set_next,grow_next,leave_next,drop_next] at hn')
 by_cases hlt:i<rs.length
 ·have b1:decide ((i:Int)<(rs.length:Int))=true:=decide_eq_true (by omega)
  have w1:IntKind.i64.wrap ((i:Int)+1)=((i+1:Nat):Int):=IntWalk.i64_in _ ⟨by omega,by omega⟩
  have hget:=getD_map encRV rs i hlt
  (refine dd4 @q0 @q3 @q5 @b1 ?_)
  refine ddraw_mk 7 (by kernel_rfl) ?_
  (refine dd9 @q0 @q3 @q5 @b1 @hget @hlt @lh @rv_name @onVal_eqH ?_)
  cases hp:decide (rs[i].name=h) with
  | true =>
   (refine dd1 @q5 ?_)
   refine pendL ?_
   rw [ixR,ixOf_at hlt hp hs]
   rfl
  | false =>
   (refine dd2 @q5 @w1 ?_)
   (refine ⟨by omega,subA,?_⟩;refine ⟨by omega,?_,?_⟩;all_goals (try exact di1 @w1))
   intro j hj hji
   by_cases e:j=i
   ·subst e;exact hp
   ·exact hs j hj (by omega)
 ·have b1:decide ((i:Int)<(rs.length:Int))=false:=decide_eq_false (by omega)
  (refine dd3 @q0 @q5 @b1 ?_)
  refine pendL ?_
  rw [ixR,ixOf_none fun j hj=>hs j hj (by omega)]
  rfl
theorem right20_d (s:DSch) (hok:okS s) (hd:s.depth≤1000000):DPure Tryz.prog 32 [encS s] (.v (.bool (s.kind == 5 && rightS 5 s))):=by
 refine dpure_of_dwp mixed Tryz.func32 rfl (fun _ _=>by kernel_rfl) (rs:=[.tmp 2]) rfl (by kernel_rfl) trivial (fun S hS=>?_)
 cases h:s.kind == 5 with
 | false =>
  (refine dd2 (encS_eq s) @h ?_)
  refine pendL ?_
  rfl
 | true =>
  (refine dd2 (encS_eq s) @h ?_)
  rw [aggS_fold]
  refine DCalls.of_pure (refSchRight_d s hok hd) ?_
  (refine dd0 ?_)
  refine pendL ?_
  rfl
def zH:H32:=⟨List.replicate 32 0,rfl⟩
theorem closed_RV (v:RVer):(encRV v).closed:=by
 have h:∀ v:H32,allL (fun _=>False) (v.1.map bD):=fun v=>allL_iff.2 fun d hd=>by obtain ⟨b,_,rfl⟩:=List.mem_map.1 hd;simp [bD,D.all]
 have hL:=closed_encL v.lens
 have hS:=closed_encS v.sch
 rw [← agg_encL] at hL
 rw [← agg_sCs,] at hS
 simp only [D.closed,D.all] at hL hS
 simp only [encRV,rvCs,D.closed,D.all,cells_sCs]
 refine allL_iff.2 fun d hd=>?_
 rcases List.mem_append.1 hd with hd | hd
 ·exact allL_iff.1 (h _) d hd
 rcases List.mem_append.1 hd with hd | hd
 ·exact allL_iff.1 (h _) d hd
 rcases List.mem_append.1 hd with hd | hd
 ·exact allL_iff.1 hL d hd
 ·exact allL_iff.1 hS d hd
theorem frz_RV (v:RVer):(encRV v).frz=encRV v:=by
 have h:∀ v:H32,frzL (v.1.map bD)=v.1.map bD:=fun v=>by have:=frz_encH v;simp only [encH,D.frz] at this;injection this
 have hL:=frz_encL v.lens
 rw [← agg_encL] at hL
 simp only [D.frz] at hL
 injection hL with hL
 simp only [encRV,rvCs,D.frz,frzL_app,h,hL,cells_sCs,frz_sCs]
theorem frz_RVs (l:List RVer):frzL (l.map encRV)=l.map encRV:=by
 rw [frzL_map,List.map_map]
 exact List.map_congr_left fun p _=>frz_RV p
theorem closed_RVs (own:Own) (h:own=.no) (l:List RVer):(D.sl own (l.map encRV)).closed:=by
 subst h
 simp only [D.closed,D.all,Own.all,true_and]
 exact allL_iff.2 fun d hd=>by obtain ⟨v,_,rfl⟩:=List.mem_map.1 hd;exact closed_RV v
theorem rv_app {R X Y Z C:List D} (h:X=Y++Z):D.sl .no [.agg (R++(X++C))]=D.sl .no [.agg (R++(Y++(Z++C)))]:=by rw [h,List.append_assoc]
theorem new20_d (root:H32) (s:DSch):DPure Tryz.prog 33 [encH root,encS s] (.sl .no ([(⟨root,zH,zeroL,s⟩:RVer)].map encRV)):=by
 refine dpure_of_dwp mixed Tryz.func33 rfl (fun _ _=>by kernel_rfl) (rs:=[.tmp 4]) rfl (by kernel_rfl) (closed_RVs _ rfl _) (fun S hS=>?_)
 have lr:=root.2
 have lS:=cells_encS s
 have key:∀ Zs C:List D,Zs.length=55→C.length=3→(root.1.map bD++Zs).take 84++C++(root.1.map bD++Zs).drop 87=root.1.map bD++(Zs.take 52++C):=fun Zs C h1 h2=>by
  have h:=len_encH root
  rw [List.take_append,List.take_of_length_le (by omega),h,List.drop_of_length_le (by rw [List.length_append,h,h1];omega),List.append_nil,List.append_assoc]
 (refine dd1 @lr ?_)
 rw [key _ _ rfl lS]
 refine ⟨by rw [List.length_append,len_encH];exact Nat.le_of_ble_eq_true (by kernel_rfl),by rw [List.length_append,List.length_append,len_encH,lS];kernel_rfl,?_⟩
 refine pendL ?_
 have hr:frzL (root.1.map bD)=root.1.map bD:=by have:=frz_encH root;simp only [encH,D.frz] at this;injection this
 simp only [D.frz,frzL,frzL_app,hr,cells_sCs,frz_sCs,List.map_cons,List.map_nil,encRV,rvCs]
 exact rv_app (by kernel_rfl)
end
end Go.Proofs.YtogbklnkpjjkoaaGreatDoor
namespace Go.Proofs.YtogbklnkpjjkoaaGreatDoor
open Go.RowKit
noncomputable def refAddR (rs:List RVer) (name frm:H32) (l:DLens):List RVer × Int :=
 if ixR rs frm<0 then (rs,7)
 else if 0≤ixR rs name then (rs,8)
 else if rightL 5 l=false then (rs,1)
 else if (targetS 5 l ((rs[(ixR rs frm).toNat]?.map (·.sch)).getD zeroS)).2=false then (rs,13)
 else (rs++[⟨name,frm,l,(targetS 5 l ((rs[(ixR rs frm).toNat]?.map (·.sch)).getD zeroS)).1⟩],0)
theorem ixR_lt {rs:List RVer} {h:H32} (h0:0≤ixR rs h):∃ k,∃ hk:k<rs.length,ixR rs h=(k:Int)∧rs[k].name=h:=by
 unfold ixR ixOf at h0 ⊢
 by_cases ha:rs.any (fun v=>decide (v.name=h))=true
 ·rw [if_pos ha]
  have hl:rs.findIdx (fun v=>decide (v.name=h))<rs.length:=by
   rw [List.findIdx_lt_length]
   obtain ⟨x,hx,hp⟩:=List.any_eq_true.1 ha
   exact ⟨x,hx,hp⟩
  exact ⟨_,hl,rfl,by simpa using List.findIdx_getElem (w:=hl)⟩
 ·rw [if_neg ha] at h0
  omega
theorem rv_k1 {N F:List D} (hN:N.length=32) (hF:F.length=32) (Zs:List D):(N++Zs).take 32++F++(N++Zs).drop 64=N++(F++Zs.drop 32):=by
 rw [List.take_append_of_le_length (by omega),List.take_of_length_le (by omega),List.drop_append,List.drop_of_length_le (by omega),hN,List.nil_append,List.append_assoc]
theorem rv_k2 {N F L:List D} (hN:N.length=32) (hF:F.length=32) (hL:L.length=20) (Zs:List D):(N++(F++Zs)).take 64++L++(N++(F++Zs)).drop 84=N++(F++(L++Zs.drop 20)):=by
 rw [← List.append_assoc N F,List.take_append_of_le_length (by rw [List.length_append];omega),List.take_of_length_le (by rw [List.length_append];omega),List.drop_append,List.drop_of_length_le (by rw [List.length_append];omega),List.length_append,hN,hF,List.nil_append]
 simp only [List.append_assoc]
theorem rv_k3 {N F L C:List D} (hN:N.length=32) (hF:F.length=32) (hL:L.length=20) (Zs:List D):(N++(F++(L++Zs))).take 84++C++(N++(F++(L++Zs))).drop 87=N++(F++(L++(C++Zs.drop 3))):=by
 rw [← List.append_assoc F L,← List.append_assoc N,List.take_append_of_le_length (by simp only [List.length_append];omega),List.take_of_length_le (by simp only [List.length_append];omega),List.drop_append,List.drop_of_length_le (by simp only [List.length_append];omega)]
 simp only [List.length_append,hN,hF,hL,List.nil_append,List.append_assoc]
theorem rv_fin {n f:H32} {l:DLens} {t:DSch} {Z:List D} (h:Z=[]):D.agg (n.1.map bD++(f.1.map bD++((encL l).cells++((encS t).cells++Z))))=encRV ⟨n,f,l,t⟩:=by rw [h,List.append_nil];rfl
attribute [local go_sem] cl_RV okCell_RV
theorem wRV (rs:List RVer):∀ d∈rs.map encRV,d.width=szOf Tryz.prog 49:=fun d hd=>by obtain ⟨v,_,rfl⟩:=List.mem_map.1 hd;rw [szRV];exact width_RV v
section
set_option maxRecDepth 200000
set_option maxHeartbeats 8000000
theorem closed_resR (r:List RVer × Int):(D.tup [.sl .no (r.1.map encRV),.v (.int .i64 r.2)]).closed:=by
 have:=closed_RVs .no rfl r.1
 simp only [D.closed,D.all,allL,and_true] at this ⊢
 exact this
theorem refAdd_d (own:Own) (rs:List RVer) (name frm:H32) (l:DLens) (hl:rs.length≤1000) (hrm:roomL 8 l=true) (hok:okL l) (hs:∀ v∈rs,okS v.sch∧rightS 5 v.sch=true) :
  DPure Tryz.prog 34 [.sl own (rs.map encRV),encH name,encH frm,encL l] (.tup [.sl .no ((refAddR rs name frm l).1.map encRV),.v (.int .i64 (refAddR rs name frm l).2)]):=by
 have fin:∀ {o:Own} {x:List RVer} {c:Int} {r:List RVer × Int},r=(x,c)→(D.tup [.sl o (x.map encRV),.v (.int .i64 c)]).frz=.tup [.sl .no (r.1.map encRV),.v (.int .i64 r.2)]:=fun h=>by rw [h];simp only [D.frz,frzL,frz_RVs]
 refine dpure_of_dwp mixed Tryz.func34 rfl (fun _ _=>by kernel_rfl) (rs:=[.tmp 8,.tmp 9]) rfl (by kernel_rfl) (closed_resR _) (fun S hS=>?_)
 have l1:=name.2
 have l2:=frm.2
 (refine dd2 @l1 @l2 ?_)
 refine DCalls.of_pure (findRV_d own rs frm (by omega)) ?_
 by_cases h1:ixR rs frm<0
 ·have b1:decide (ixR rs frm<0)=true:=decide_eq_true h1
  (refine dd1 @b1 ?_)
  refine pendL ?_
  exact fin (by rw [refAddR,if_pos h1])
 have b1:decide (ixR rs frm<0)=false:=decide_eq_false h1
 obtain ⟨k,hk,hki,hkn⟩:=ixR_lt (rs:=rs) (h:=frm) (by omega)
 have hsk:=hs _ (List.getElem_mem hk)
 have hsch:(rs[(ixR rs frm).toNat]?.map (·.sch)).getD zeroS=rs[k].sch:=by rw [hki];simp [hk]
 (refine dd3 @b1 @l1 @l2 ?_)
 refine DCalls.of_pure (findRV_d own rs name (by omega)) ?_
 by_cases h2:0≤ixR rs name
 ·have b2:decide (ixR rs name ≥ 0)=true:=decide_eq_true h2
  (refine dd1 @b2 ?_)
  refine pendL ?_
  exact fin (by rw [refAddR,if_neg h1,if_pos h2])
 have b2:decide (ixR rs name ≥ 0)=false:=decide_eq_false h2
 (refine dd1 @b2 ?_)
 refine DCalls.of_pure (right14_d l hrm hok) ?_
 cases h3:rightL 5 l with
 | false =>
  (refine dd0 ?_)
  refine pendL ?_
  exact fin (by rw [refAddR,if_neg h1,if_neg h2,if_pos h3])
 | true =>
 (refine dd1 @hki ?_)
 generalize hX:St.add (St.add (St.add S _) _) _=T0
 have u5:T0.ob S.next=some (.box 39 (name.1.map bD)):=by rw [← hX];exact di0
 have u6:T0.ob (S.next+1)=some (.box 39 (frm.1.map bD)):=by rw [← hX];exact di0
 have u7:T0.ob (S.next+1+1)=some (.box 47 (encL l).cells):=by rw [← hX];exact di0
 have hW0:T0.WF:=by rw [← hX];exact ((hS.add _).add _).add _
 have hs0:S.Sub T0:=by rw [← hX];exact (((St.Sub.refl S).add hS _).add hS _).add hS _
 clear hX
 have hget:=getD_map encRV rs k hk
 refine ddraw_any (fun S'=>S'.ob (S.next+1+1)=some (.box 47 (encL l).cells)) 13 (by exact di1 @u7) (by kernel_rfl) ?_
 (have F:=pk4 @hget @hk @rv_sch @hki;refine stq F 0 ?_;refine stq F 1 ?_;refine stq F 2 ?_;refine stq F 3 ?_;refine stq F 4 ?_;refine stq F 5 ?_;clear F)
 (refine stk 6 (v:=?v7) (fun S' hz=>dquietR_of ?h7) ?k7;(case h7=>((refine dd1 @hz ?_);refine dqgo_mk (refTarget_d l rs[k].sch hrm hok h3 hsk.2 hsk.1) ?_;exact rfl)))
 (have F:=@tupBs.eq_1;refine stq F 7 ?_;refine stq F 8 ?_;refine stq F 9 ?_;clear F)
 (refine s_one 10 ?_;(refine dd0 ?_))
 refine ⟨((St.Sub.refl T0).add hW0 _).ob _ _ u7,?_⟩
 (refine s_one 11 ?_;(refine dd0 ?_))
 refine ⟨(((St.Sub.refl T0).add hW0 _).set hW0 (Nat.le_refl _) _).ob _ _ u7,?_⟩
 (have F:=trivial;refine stq F 12 ?_;clear F)
 (refine s_done (by kernel_rfl) ?_;(refine dd0 ?_))
 generalize hY:St.set (St.add T0 _) _ _=T1
 have h01:T0.Sub T1:=by rw [← hY];exact ((St.Sub.refl T0).add hW0 _).set hW0 (Nat.le_refl _) _
 have hW1:T1.WF:=by rw [← hY];exact (hW0.add _).set (Nat.lt_succ_self _) _
 have hx:T1.ob T0.next=some (.box 25 (encS (goT (targetS 5 l rs[k].sch)).1).cells):=by rw [← hY];exact di0
 clear hY
 have w5:=h01.ob _ _ u5
 have w6:=h01.ob _ _ u6
 have w7:=h01.ob _ _ u7
 cases h4:(targetS 5 l rs[k].sch).2 with
 | false =>
  have g2:(goT (targetS 5 l rs[k].sch)).2=false:=by rw [goT_2,h4]
  (refine dd1 @g2 ?_)
  refine ⟨fin ?_,hs0.trans h01⟩
  rw [refAddR,if_neg h1,if_neg h2,if_neg (by rw [h3];decide),hsch,if_pos h4]
 | true =>
  have g2:(goT (targetS 5 l rs[k].sch)).2=true:=by rw [goT_2,h4]
  have hr:refAddR rs name frm l=(rs++[⟨name,frm,l,(targetS 5 l rs[k].sch).1⟩],0):=by rw [refAddR,if_neg h1,if_neg h2,if_neg (by rw [h3];decide),hsch,if_neg (by rw [h4];decide)]
  rw [goT_1 h4] at hx
  (refine dd1 @g2 ?_)
  refine ddraw_any (fun S'=>S'.ob S.next=some (.box 39 (name.1.map bD))∧S'.ob (S.next+1)=some (.box 39 (frm.1.map bD))∧S'.ob (S.next+1+1)=some (.box 47 (encL l).cells)∧S'.ob T0.next=some (.box 25 (encS (targetS 5 l rs[k].sch).1).cells)) 12 (by exact di6 @w5 @w6 @w7 @hx @true_and @and_true) (by kernel_rfl) ?_
  (have F:=trivial;refine stq F 0 ?_;refine stq F 1 ?_;clear F)
  (have F:=pk2 @l1 @l2;refine stq F 3 ?_;refine stq F 4 ?_;refine stq F 5 ?_;refine stq F 6 ?_;clear F)
  have lL:=cells_encL l
  have lS:=cells_encS (targetS 5 l rs[k].sch).1
  refine s_take 7 rfl (by kernel_rfl) (by kernel_rfl) (v:=encRV ⟨name,frm,l,(targetS 5 l rs[k].sch).1⟩) (fun S' hz=>dquietR_of (by (refine dd4 @l1 @l2 @lL @lS ?_);simp only [rv_k1 (len_encH name) (len_encH frm),rv_k2 (len_encH name) (len_encH frm) lL,rv_k3 (len_encH name) (len_encH frm) lL];refine ⟨⟨?_,?_,?_⟩,rv_fin (by kernel_rfl)⟩ <;> (simp only [List.length_append,len_encH,lL,lS];exact Nat.le_of_ble_eq_true (by kernel_rfl)))) ?_
  (have F:=trivial;refine stq F 8 ?_;clear F)
  (refine s_one 2 ?_;(refine dd0 ?_))
  have hby:=byRV
  have hlm:(rs.map encRV).length=rs.length:=List.length_map ..
  have hb2:(rs.length+1) * bytesOf Tryz.prog 49≤1001 * 1000:=Nat.mul_le_mul (by omega) hby
  have hb1:rs.length * bytesOf Tryz.prog 49≤1001 * 1000:=Nat.mul_le_mul (by omega) hby
  refine dapp_more elRV zeRV (.inl rfl) (fun d hd=>by cases hd) (wRV rs) (by simp only [List.length_nil];omega) (by simp only [List.length_nil,Nat.zero_add,hlm];omega) ?_
  have keep:∀ {T:St} {own:Own} {n:Nat},T.WF→S.Sub T→T0.next+1≤T.next→(∀ g,own=.row g→T0.next+1≤g) →
    ∀ j o,j<T0.next+1→T.ob j=some o→(T.grow own 49 n).ob j=some o:=fun {T own n} hW hs hn hg j o hj e=>growR_keep hW e fun g hgg=>by have:=hg g hgg;omega
  have hn1:=h01.next
  have n1:T0.next+1≤T1.next:=by have:=hW1.lt hx;omega
  have w5':=keep (own:=.full) (n:=([]:List D).length+(rs.map encRV).length) hW1 (hs0.trans h01) n1 (fun g e=>by cases e) _ _ (by have:=hW0.lt u5;omega) w5
  have w6':=keep (own:=.full) (n:=([]:List D).length+(rs.map encRV).length) hW1 (hs0.trans h01) n1 (fun g e=>by cases e) _ _ (by have:=hW0.lt u6;omega) w6
  have w7':=keep (own:=.full) (n:=([]:List D).length+(rs.map encRV).length) hW1 (hs0.trans h01) n1 (fun g e=>by cases e) _ _ (by have:=hW0.lt u7;omega) w7
  have hx':=keep (own:=.full) (n:=([]:List D).length+(rs.map encRV).length) hW1 (hs0.trans h01) n1 (fun g e=>by cases e) _ _ (by omega) hx
  have hs2:S.Sub (T1.grow .full 49 (([]:List D).length+(rs.map encRV).length)):=⟨by rw [grow_next];have:=hs0.next;omega,fun j o e=>growR_keep hW1 ((hs0.trans h01).ob j o e) fun g e=>by cases e⟩
  have hW2:(T1.grow .full 49 (([]:List D).length+(rs.map encRV).length)).WF:=growR_WF hW1
  have hr2:(T1.grow .full 49 (([]:List D).length+(rs.map encRV).length)).ob T1.next=some (.row 49 (([]:List D).length+(rs.map encRV).length)):=growR_new
  have hn2:(T1.grow .full 49 (([]:List D).length+(rs.map encRV).length)).next=T1.next+1:=grow_next _ _ _ _
  generalize T1.grow .full 49 (([]:List D).length+(rs.map encRV).length)=T2 at *
  refine ⟨⟨w5',w6',w7',hx'⟩,?_⟩
  rw [List.nil_append]
  (refine s_one 9 ?_;(refine dd0 ?_))
  refine dapp_more elRV zeRV (.inr ⟨_,rfl,by rw [hr2,List.length_nil,Nat.zero_add]⟩) (wRV rs) (fun d hd=>by obtain rfl:=List.mem_singleton.1 hd;rw [szRV];exact width_RV _) (by simp only [hlm,List.length_singleton];omega) (by simp only [hlm,List.length_singleton];omega) ?_
  have w5'':=keep (own:=.row T1.next) (n:=(rs.map encRV).length+[encRV ⟨name,frm,l,(targetS 5 l rs[k].sch).1⟩].length) hW2 hs2 (by omega) (fun g e=>by injection e with e;omega) _ _ (by have:=hW0.lt u5;omega) w5'
  have w6'':=keep (own:=.row T1.next) (n:=(rs.map encRV).length+[encRV ⟨name,frm,l,(targetS 5 l rs[k].sch).1⟩].length) hW2 hs2 (by omega) (fun g e=>by injection e with e;omega) _ _ (by have:=hW0.lt u6;omega) w6'
  have w7'':=keep (own:=.row T1.next) (n:=(rs.map encRV).length+[encRV ⟨name,frm,l,(targetS 5 l rs[k].sch).1⟩].length) hW2 hs2 (by omega) (fun g e=>by injection e with e;omega) _ _ (by have:=hW0.lt u7;omega) w7'
  have hx'':=keep (own:=.row T1.next) (n:=(rs.map encRV).length+[encRV ⟨name,frm,l,(targetS 5 l rs[k].sch).1⟩].length) hW2 hs2 (by omega) (fun g e=>by injection e with e;omega) _ _ (by omega) hx'
  have hs3:S.Sub (T2.grow (.row T1.next) 49 ((rs.map encRV).length+[encRV ⟨name,frm,l,(targetS 5 l rs[k].sch).1⟩].length)):=⟨by rw [grow_next];have:=hs2.next;omega,fun j o e=>growR_keep hW2 (hs2.ob j o e) fun g hg=>by injection hg with hg;have:=hS.lt e;have:=hs0.next;omega⟩
  generalize T2.grow (.row T1.next) 49 ((rs.map encRV).length+[encRV ⟨name,frm,l,(targetS 5 l rs[k].sch).1⟩].length)=T3 at *
  refine ⟨⟨w5'',w6'',w7'',hx''⟩,?_⟩
  (have F:=trivial;refine stq F 10 ?_;refine stq F 11 ?_;clear F)
  (refine s_done (by kernel_rfl) ?_;(refine dd0 ?_))
  refine ⟨?_,hs3⟩
  rw [show rs.map encRV++[encRV ⟨name,frm,l,(targetS 5 l rs[k].sch).1⟩]=(rs++[(⟨name,frm,l,(targetS 5 l rs[k].sch).1⟩:RVer)]).map encRV by rw [List.map_append];rfl]
  exact fin hr
end
end Go.Proofs.YtogbklnkpjjkoaaGreatDoor
namespace Go.Proofs.YtogbklnkpjjkoaaGreatDoor
open Go.RowKit
def rvOf (vs:List DVer) (v:DVer):RVer:=⟨v.name,if v.up<0 then zH else nmAt vs v.up.toNat,v.lens,v.sch⟩
def rvs (vs:List DVer):List RVer:=vs.map (rvOf vs)
theorem rvs_len (vs:List DVer):(rvs vs).length=vs.length:=List.length_map ..
theorem rvs_get {vs:List DVer} {i:Nat} (h:i<vs.length):(rvs vs)[i]'(by rw [rvs_len];exact h)=rvOf vs vs[i]:=by simp [rvs]
theorem nmAt_snoc {vs:List DVer} {v:DVer} {i:Nat} (h:i<vs.length):nmAt (vs++[v]) i=nmAt vs i:=by
 unfold nmAt;rw [List.getElem?_append_left h]
theorem rvOf_snoc {vs:List DVer} {v w:DVer} (h:w.up<(vs.length:Int)):rvOf (vs++[v]) w=rvOf vs w:=by
 unfold rvOf
 by_cases h0:w.up<0
 ·rw [if_pos h0,if_pos h0]
 ·rw [if_neg h0,if_neg h0,nmAt_snoc (by omega)]
theorem up_lt {vs:List DVer} (hw:WfR vs) {i:Nat} (h:i<vs.length):vs[i].up<(vs.length:Int):=by
 have h1:=hw.up i h
 rw [upOf_lt h] at h1
 rcases Nat.eq_zero_or_pos i with h0 | h0
 ·have:=h1.1 h0;omega
 ·have:=(h1.2 h0).2;omega
theorem rvs_snoc {vs:List DVer} {v:DVer} (hw:WfR vs) (h:v.up<(vs.length:Int)):rvs (vs++[v])=rvs vs++[rvOf vs v]:=by
 unfold rvs
 rw [List.map_append,List.map_cons,List.map_nil,rvOf_snoc h]
 congr 1
 refine List.map_congr_left fun w hx=>?_
 obtain ⟨i,hi,rfl⟩:=List.getElem_of_mem hx
 exact rvOf_snoc (up_lt hw hi)
theorem ixR_find {vs:List DVer} (hn:(vs.map (·.name)).Nodup) (h:H32):ixR (rvs vs) h=(match findR vs h with | some i=>(i:Int) | none=>-1):=by
 cases hf:findR vs h with
 | some i =>
  obtain ⟨hi,he⟩:=findR_some hf
  have hi':i<(rvs vs).length:=by rw [rvs_len];exact hi
  refine ixOf_at hi' (by rw [rvs_get hi];exact decide_eq_true he) fun j hj hji=>?_
  have hj':j<vs.length:=by rw [rvs_len] at hj;exact hj
  rw [rvs_get hj']
  refine decide_eq_false fun e=>?_
  have:j=i:=nodup_inj hn (i:=j) (j:=i) (by simpa using hj') (by simpa using hi) (by rw [List.getElem_map,List.getElem_map];exact e.trans he.symm)
  omega
 | none =>
  refine ixOf_none fun j hj=>?_
  have hj':j<vs.length:=by rw [rvs_len] at hj;exact hj
  rw [rvs_get hj']
  exact decide_eq_false fun e=>findR_none hf j hj' e
theorem refAddR_eq {vs:List DVer} (hw:WfR vs) (name frm:H32) (l:DLens):refAddR (rvs vs) name frm l=(rvs (addR vs name frm l (tgS l)).1,(addR vs name frm l (tgS l)).2):=by
 unfold refAddR addR
 rw [ixR_find hw.nodup,ixR_find hw.nodup]
 cases hf:findR vs frm with
 | none=>rw [if_pos (show (-1:Int)<0 by decide)]
 | some k =>
  obtain ⟨hk,hkn⟩:=findR_some hf
  have hk':k<(rvs vs).length:=by rw [rvs_len];exact hk
  rw [if_neg (show ¬ ((k:Nat):Int)<0 by omega)]
  cases hn:findR vs name with
  | some j =>
   rw [if_pos (show (0:Int)≤((j:Nat):Int) by omega)]
   simp
  | none =>
   rw [if_neg (show ¬ (0:Int)≤-1 by decide)]
   have e1:(((rvs vs)[((k:Nat):Int).toNat]?).map (·.sch)).getD zeroS=vs[k].sch:=by
    rw [Int.toNat_natCast,List.getElem?_eq_getElem hk',Option.map_some,Option.getD_some,rvs_get hk];rfl
   have e2:((vs[k]?).map (·.sch)).getD zeroS=vs[k].sch:=by rw [List.getElem?_eq_getElem hk];rfl
   simp only [e1,e2]
   unfold tgS
   cases h3:rightL 5 l with
   | false=>simp
   | true =>
    cases h4:(targetS 5 l vs[k].sch).2 with
    | false=>simp
    | true =>
     simp
     rw [rvs_snoc hw (by show ((k:Nat):Int)<_;omega)]
     congr 2
     show (⟨name,frm,l,_⟩:RVer)=rvOf vs ⟨name,(k:Int),l,_⟩
     rw [rvOf,if_neg (show ¬ ((k:Nat):Int)<0 by omega),Int.toNat_natCast,nmAt_lt hk,hkn]
theorem rvs_sch {vs:List DVer} (h:OkR vs):∀ v∈rvs vs,okS v.sch∧rightS 5 v.sch=true:=fun v hv=>by
 obtain ⟨w,hw,rfl⟩:=List.mem_map.1 hv
 exact h.sch w hw
structure DRst where
 frm:UInt8
 name:H32
 lens:DLens
def spCs (v:DRst):List D:=bD v.frm::(v.name.1.map bD++(encL v.lens).cells)
def encSp (v:DRst):D:=.agg (spCs v)
theorem spCs_len (v:DRst):(spCs v).length=53:=by
 have h1:=len_encH v.name
 have h3:=cells_encL v.lens
 simp only [spCs,List.length_cons,List.length_append,h1,h3]
theorem cl_Sp (v:DRst):(encSp v).cells.length=53:=spCs_len v
theorem width_Sp (v:DRst):(encSp v).width=53:=spCs_len v
theorem okCell_Sp (v:DRst):(encSp v).okCell=true:=rfl
theorem sp_frm (v:DRst):(encSp v).cells.getD 0 undefD=bD v.frm:=rfl
theorem sp_name (v:DRst):D.agg (((encSp v).cells.drop 1).take 32)=encH v.name:=by
 have h1:=len_encH v.name
 show D.agg ((v.name.1.map bD++(encL v.lens).cells).take 32)=_
 rw [List.take_append_of_le_length (by omega),List.take_of_length_le (by omega)]
 rfl
theorem sp_lens (v:DRst):D.agg (((encSp v).cells.drop 33).take 20)=encL v.lens:=by
 have h1:=len_encH v.name
 have h3:=cells_encL v.lens
 show D.agg (((v.name.1.map bD++(encL v.lens).cells).drop 32).take 20)=_
 rw [List.drop_append,List.drop_of_length_le (by omega),h1,List.nil_append,List.drop_zero,List.take_of_length_le (by omega),agg_encL]
attribute [local go_sem] cl_Sp okCell_Sp
def greatSt (ls:List DRst):Bool:=decide (14<ls.length) || ls.any (fun x=>greatL x.lens)
section
set_option maxRecDepth 200000
set_option maxHeartbeats 8000000
theorem great20_d (own:Own) (ls:List DRst) (hl:ls.length≤140737488351232) (hok:∀ x∈ls,okL x.lens):DPure Tryz.prog 9 [.sl own (ls.map encSp)] (.v (.bool (greatSt ls))):=by
 refine dpure_of_dwp mixed Tryz.func9 rfl (fun _ _=>by kernel_rfl) (rs:=[.tmp 2]) rfl (by kernel_rfl) trivial (fun S hS=>?_)
 by_cases h1:14<ls.length
 ·have b1:decide ((ls.length:Int) > 14)=true:=decide_eq_true (by omega)
  (refine dd1 @b1 ?_)
  refine pendL ?_
  rw [greatSt,decide_eq_true h1];rfl
 ·have b1:decide ((ls.length:Int) > 14)=false:=decide_eq_false (by omega)
  (refine dd1 @b1 ?_)
  (refine dloop_st (fun t=>List.contains [2,3,7,8,9,10,11,12,13,14,15,16,17,18] t) (by kernel_rfl) ?_ (ls.length) (fun i f=>i≤ls.length∧f 3=.v (.int .i64 ((i:Nat):Int))∧(∀ j (h:j<ls.length),j<i→greatL ls[j].lens=false)) ?_ ?_;(exact wfA);(exact ⟨(by omega),(by exact di0),(fun j _ h=>absurd h (by omega))⟩);intro i g tn hn hT hg hI;obtain ⟨le,q3,hs⟩:=hI;have q0:=hg 0 rfl;simp (disch:=first | decide | omega | (simp only [nx];first | done | omega)) only [go_sem] at q0;clear hg;have hn':=hn;try simp only [add_next,set_next,grow_next,leave_next,drop_next] at hn')
  by_cases hlt:i<ls.length
  ·have c1:decide ((i:Int)<(ls.length:Int))=true:=decide_eq_true (by omega)
   have w1:IntKind.i64.wrap ((i:Int)+1)=((i+1:Nat):Int):=IntWalk.i64_in _ ⟨by omega,by omega⟩
   have hget:=getD_map encSp ls i hlt
   (refine dd6 @q0 @q3 @c1 @hget @hlt @sp_lens ?_)
   refine DCalls.of_pure (great14_d ls[i].lens (hok _ (List.getElem_mem hlt))) ?_
   cases hg:greatL ls[i].lens with
   | true =>
    (refine dd0 ?_)
    refine pendL ?_
    rw [greatSt,List.any_eq_true.2 ⟨_,List.getElem_mem hlt,hg⟩,Bool.or_true];rfl
   | false =>
    (refine dd2 @q3 @w1 ?_)
    (refine ⟨by omega,subA,?_⟩;refine ⟨by omega,?_,?_⟩;all_goals (try exact di1 @w1))
    intro j hj hji
    by_cases e:j=i
    ·subst e;exact hg
    ·exact hs j hj (by omega)
  ·have c1:decide ((i:Int)<(ls.length:Int))=false:=decide_eq_false (by omega)
   (refine dd3 @q0 @q3 @c1 ?_)
   refine pendL ?_
   have:ls.any (fun x=>greatL x.lens)=false:=List.any_eq_false.2 fun x hx=>by
    obtain ⟨j,hj,rfl⟩:=List.getElem_of_mem hx
    rw [hs j hj (by omega)];decide
   rw [greatSt,decide_eq_false h1,this];rfl
end
end Go.Proofs.YtogbklnkpjjkoaaGreatDoor
namespace Go.Proofs.YtogbklnkpjjkoaaGreatDoor
open Go.ChangeShapes Go.WideShapes Go.ChangeAt Go.RowKit Go.Deep Go.Joins
section
set_option maxRecDepth 20000
variable {H : Type} {enc : TypeId × Value → H} {w : World}
theorem trod_struct3P {P:Program} {t:TypeId} {f0 f1 f2:Field} {fuel:Nat} {cs:List Value} {x:DataW H × List MemPlace} (ht:P.underlying t=some (.struct #[f0,f1,f2])) (h:DataW.trod enc P w 0 (fun _=>true) true fuel t cs=some x) :
  ∃ y0 y1 y2 n,x.1=.agg [y0.1,y1.1,y2.1]∧cs.length=P.cellsOf t∧DataW.trod enc P w 0 (fun _=>true) true n f0.type ((cs.drop f0.offset).take (P.cellsOf f0.type))=some y0 ∧
   DataW.trod enc P w 0 (fun _=>true) true n f1.type ((cs.drop f1.offset).take (P.cellsOf f1.type))=some y1∧DataW.trod enc P w 0 (fun _=>true) true n f2.type ((cs.drop f2.offset).take (P.cellsOf f2.type))=some y2:=by
 obtain ⟨xs,n,_,rfl,hl,hlen,hf⟩:=DataW.trod_struct ht h
 match xs,hlen with
 | [y0,y1,y2],_=>exact ⟨y0,y1,y2,n,by simp,hl,by simpa using hf 0 f0 rfl,by simpa using hf 1 f1 rfl,by simpa using hf 2 f2 rfl⟩
theorem u8_ofP {fuel:Nat} {u:Value} {x:DataW H × List MemPlace} (h:DataW.trod enc Tryz.prog w 0 (fun _=>true) true fuel 5 [u]=some x):∃ n:UInt8,u=bV n:=by
 obtain ⟨n,e,_,hw⟩:=DataW.trod_int Tryz.underlying5 h
 have hb:=bounds_u8 hw
 injection e with e _
 refine ⟨UInt8.ofNat n.toNat,?_⟩
 have e2:(((UInt8.ofNat n.toNat).toNat:Nat):Int)=n:=by
  rw [UInt8.toNat_ofNat_of_lt' (by show n.toNat<256;omega)];omega
 show u=.int .u8 _
 rw [e2];exact e
def IsSp (w:World) (o:DRst) (cs:List Value):Prop:=okL o.lens∧∀ (η:Names) (X:Nat→Nat→Prop),(∀ b i,X b i)→Rep Tryz.prog w η X (encSp o) (.agg cs.toArray)
theorem open_sp_trod {fuel:Nat} {cs:List Value} {x:DataW H × List MemPlace} (h:DataW.trod enc Tryz.prog w 0 (fun _=>true) true fuel 69 cs=some x) (hs:Sized Tryz.prog 69 x.1):∃ o,IsSp w o cs:=by
 obtain ⟨y0,y1,y2,m,hx,hl,g0,g1,g2⟩:=trod_struct3P Tryz.underlying69 h
 have k0:Tryz.prog.cellsOf 5=1:=by kernel_rfl
 have k1:Tryz.prog.cellsOf 39=32:=by kernel_rfl
 have k2:Tryz.prog.cellsOf 47=20:=by kernel_rfl
 have k4:Tryz.prog.cellsOf 69=53:=by kernel_rfl
 rw [k4] at hl
 rw [hx] at hs
 simp only [k0,k1,k2] at g0 g1 g2
 match cs,hl with
 | c::cs,hl =>
  have hl:cs.length=52:=by simpa using hl
  simp only [List.drop_zero,List.take_succ_cons,List.take_zero,List.drop_succ_cons] at g0 g1 g2
  obtain ⟨k,rfl⟩:=u8_ofP g0
  obtain ⟨n,hn⟩:=hash_of g1
  obtain ⟨l,hlo,hlr⟩:=open_lens_trod _ _ _ _ (Nat.lt_succ_self _) g2 (sized_each Tryz.underlying69 hs (j:=2) rfl rfl)
  have e:cs=n.1.map bV++(cs.drop 32).take 20:=by
   rw [show (cs.drop 32).take 20=cs.drop 32 from List.take_of_length_le (by rw [List.length_drop];omega),← hn,List.take_append_drop]
  refine ⟨⟨k,n,l⟩,hlo,fun η X hX=>?_⟩
  have hr:=hlr η X hX
  rw [← agg_encL] at hr
  simp only [Rep] at hr
  obtain ⟨vs,h1,h2,h3⟩:=hr
  injection h1 with h1
  have h1':(cs.drop 32).take 20=vs:=by simpa using congrArg Array.toList h1
  rw [← h1'] at h2 h3
  simp only [encSp,Rep]
  refine ⟨bV k::cs,rfl,?_,fun u hu=>?_⟩
  ·simp only [spCs,RepL]
   refine ⟨_,_,rfl,by simp only [bD,Rep];rfl,?_⟩
   rw [e]
   refine RepL.append ?_ ?_
   ·have:=repL_plain (P:=Tryz.prog) (w:=w) (η:=η) (X:=X) (n.1.map bV)
    rwa [List.map_map] at this
   ·exact h2
  ·rcases List.mem_cons.1 hu with rfl | hu
   ·rfl
   ·rw [e] at hu
    rcases List.mem_append.1 hu with hu | hu
    ·exact bV_one n u hu
    ·exact h3 u hu
theorem open_sps {v:Value} {d:DataW H} {p:List MemPlace} {W:World} {base:Nat} (h:DataW.Trod enc Tryz.prog w 0 (fun _=>true) true 26 v d p) (hs:Sized Tryz.prog 26 d) (hk:Value.okWide Tryz.prog W .any base 26 v) :
  ∃ l:List DRst,(∀ x∈l,okL x.lens)∧l.length≤140737488351232∧∀ (η:Names) (X:Nat→Nat→Prop),(∀ b i,X b i)→Rep Tryz.prog w η X (.sl .no (l.map encSp)) v:=by
 obtain ⟨l,h1,h2,h3⟩:=open_structs (P:=Tryz.prog) encSp (size:=53) (bytes:=392) Tryz.underlying26 (by kernel_rfl) (by omega) (by kernel_rfl) (by omega) (fun o cs=>IsSp w o cs) (fun fuel cs x hx hsx _=>open_sp_trod hx hsx) width_Sp (fun _=>rfl) (fun o cs hq η X hX=>hq.2 η X hX) h hs hk
 exact ⟨l,fun x hx=>by obtain ⟨cs,hq⟩:=h1 x hx;exact hq.1,h2,h3⟩
end
end Go.Proofs.YtogbklnkpjjkoaaGreatDoor
