/- Texts of a proof, part 4. Conditions: none. -/
import Derived.Test.YtogbklnkpjjkoaaGreatDoorW3
import Derived.Lib.SlBytesConst
import Derived.Deep.Quiet
set_option linter.unusedVariables false
set_option linter.unusedSimpArgs false
namespace Go.Proofs.YtogbklnkpjjkoaaGreatDoor
open Go.RowKit

def St.WF (S:St):Prop:=∀ k,S.next≤k→S.ob k=none

section
variable {P : Program} {base : Nat} {S : St} {η : Names} {w : World} {f : Fm} {a : Act}
def Left (P:Program) (base:Nat) (S:St) (η:Names) (w:World) (a:Act) (dst:Option Tmp) (K:D→St→Prop) (a':Act) (w':World):Prop :=
 ∃ d v S' η',K d S'∧Goes P base S η w S' η' w'∧Rep P w' η' (Fix P S' η') d v∧a'=a.put dst v
theorem wp_value {o:Oper} {v:Value} {w':World} {K:Act→World→Prop} {Q:Exit→Act→World→Prop} (h:(execOp a.eval o).run P w=.ok (.value v) w') (hk:K (a.put o.dst v) w'):o.wp P a w K Q:=by
 unfold Oper.wp
 rw [h]
 exact hk
theorem wp_of_val (hM:Mem P base S η w) (hf:RepF P w η (Fix P S η) f a) {o:Oper} (hop:opsOk a.tmps.size o.op=true) {K:D→St→Prop} {Q:Exit→Act→World→Prop}
  (h:onVal (dval P f S o.type o.op) fun d=>K d S):o.wp P a w (Left P base S η w a o.dst K) Q:=by
 cases hd:dval P f S o.type o.op with
 | none=>rw [hd] at h;exact h.elim
 | some p =>
  obtain ⟨c,d⟩:=p
  rw [hd] at h
  obtain ⟨v,h1,h2⟩:=dval_sound hM hf hop hd h.1
  exact wp_value h1 ⟨d,v,S,η,h.2,Goes.refl hM,h2,rfl⟩
theorem wp_of_new (hM:Mem P base S η w) (hf:RepF P w η (Fix P S η) f a) {o:Oper} (hop:opsOk a.tmps.size o.op=true) {K:D→St→Prop} {Q:Exit→Act→World→Prop}
  (h:onVal (dnew P f S o.op) fun d=>K d S):o.wp P a w (Left P base S η w a o.dst K) Q:=by
 cases hd:dnew P f S o.op with
 | none=>rw [hd] at h;exact h.elim
 | some p =>
  obtain ⟨c,d⟩:=p
  rw [hd] at h
  obtain ⟨v,w',η',h1,h2,h3⟩:=dnew_sound hM hf hop hd h.1
  exact wp_value h1 ⟨d,v,S,η',h.2,h2,h3,rfl⟩
theorem wp_of_next {o:Oper} {g:FuncId} {us:List Value} (hrun:(execOp a.eval o).run P w=(callFunc g us.toArray).run P w) {K:D→St→Prop} {Q:Exit→Act→World→Prop}
  (h:((callFunc g us.toArray).run P w=.ok (.enter g us.toArray) w ∧
   Calls P g us.toArray w fun e w'=>∃ d S' η' v,K d S'∧e=.returned v∧Rep P w' η' (Fix P S' η') d v∧Goes P base S η w S' η' w') ∨
   ∃ d S' η' v w',(callFunc g us.toArray).run P w=.ok (.value v) w'∧K d S'∧Rep P w' η' (Fix P S' η') d v∧Goes P base S η w S' η' w'):o.wp P a w (Left P base S η w a o.dst K) Q:=by
 rcases h with ⟨k1,k2⟩ | ⟨d,S',η',v,w',k1,k2,k3,k4⟩
 ·unfold Oper.wp
  rw [hrun,k1]
  simp only [Oper.upon]
  refine k2.mono fun e w' ⟨d,S',η',v,g1,g2,g3,g4⟩=>?_
  subst g2
  exact ⟨d,v,S',η',g1,g4,g3,rfl⟩
 ·exact wp_value (hrun.trans k1) ⟨d,v,S',η',k2,k4,k3,rfl⟩
theorem wp_of_call (hM:Mem P base S η w) (hf:RepF P w η (Fix P S η) f a) (dst:Option Tmp) (x:Operand) (args:Array Operand) (ts:Array TypeId) (ty:TypeId) (pos:String) (after:Array Edge) (guard:Option (Nat × Bool))
  (hop:∀ y∈(Op.call ⟨.value x,args,ts⟩).operands,opnOk a.tmps.size y=true) {g:FuncId} {fs cs:List D} (hx:ev f x=.fn (.func g) fs cs) {K:D→St→Prop} {Q:Exit→Act→World→Prop}
  (h:DCalls P g (fs++args.toList.map (ev f)++cs) S K):Oper.wp P ⟨dst,.call ⟨.value x,args,ts⟩,ty,pos,after,guard⟩ a w (Left P base S η w a dst K) Q:=by
 have h1:=hf.ev (hop x (by simp [Op.operands,Call.operands]))
 rw [hx] at h1
 simp only [Rep] at h1
 obtain ⟨us,vs,e1,e2,e3⟩:=h1
 have h2:=repL_map hf (l:=args.toList) fun y hy=>hop y (by simp only [Op.operands,Call.operands,Array.mem_append];exact .inr (by simpa using hy))
 have hrun:(execOp a.eval ⟨dst,.call ⟨.value x,args,ts⟩,ty,pos,after,guard⟩).run P w=(callFunc g (us++args.toList.map a.eval++vs).toArray).run P w:=by
  unfold execOp
  simp only [resolve,Sem.run_bind,e1,Deferred.ofValue,Sem.run_pure,Result.andThen_ok,invoke]
  congr 2
  apply Array.ext'
  simp
 exact wp_of_next hrun (h base η w (us++args.toList.map a.eval++vs) hM ((e2.append h2).append e3))
theorem wp_of_invoke (hM:Mem P base S η w) (hf:RepF P w η (Fix P S η) f a) (dst:Option Tmp) (x:Operand) (m:String) (args:Array Operand) (ts:Array TypeId) (ty:TypeId) (pos:String) (after:Array Edge) (guard:Option (Nat × Bool))
  (hop:∀ y∈(Op.call ⟨.invoke x m,args,ts⟩).operands,opnOk a.tmps.size y=true) {t:TypeId} {d:D} (hx:ev f x=.ifc t d) {g:FuncId} {d':D} (hm:DMeth P t d m g d') {K:D→St→Prop} {Q:Exit→Act→World→Prop}
  (h:DCalls P g (d'::args.toList.map (ev f)) S K):Oper.wp P ⟨dst,.call ⟨.invoke x m,args,ts⟩,ty,pos,after,guard⟩ a w (Left P base S η w a dst K) Q:=by
 have h1:=hf.ev (hop x (by simp [Op.operands,Call.operands]))
 rw [hx] at h1
 simp only [Rep] at h1
 obtain ⟨u,e1,e2⟩:=h1
 obtain ⟨u',m1,m2⟩:=hm w η _ u e2
 have h2:=repL_map hf (l:=args.toList) fun y hy=>hop y (by simp only [Op.operands,Call.operands,Array.mem_append];exact .inr (by simpa using hy))
 have hrun:(execOp a.eval ⟨dst,.call ⟨.invoke x m,args,ts⟩,ty,pos,after,guard⟩).run P w=(callFunc g (u'::args.toList.map a.eval).toArray).run P w:=by
  unfold execOp
  simp only [resolve,Sem.run_bind,e1,Sem.run_pure,Result.andThen_ok,invoke,callMethod]
  have e0:(#[Value.iface t u]++Array.map a.eval args)[0]? = some (.iface t u):=by rw [← Array.getElem?_toList];simp only [Array.toList_append,List.cons_append,List.getElem?_cons_zero]
  have e3:(#[u']++(#[Value.iface t u]++Array.map a.eval args).extract 1 (#[Value.iface t u]++Array.map a.eval args).size)=(u'::args.toList.map a.eval).toArray:=by
   apply Array.ext'
   simp
   exact List.take_of_length_le (by simp)
  rw [← e3]
  generalize #[Value.iface t u]++Array.map a.eval args=V at *
  rw [e0]
  simp only [Sem.run_bind,program,Sem.run,Result.andThen_ok,m1]
 exact wp_of_next hrun (h base η w (u'::args.toList.map a.eval) hM (by simp only [RepL];exact ⟨u',_,rfl,m2,h2⟩))
theorem wp_of_step {o:Oper} {run:List Value→Sem Value} {l:List D} {vs:List Value} (hM:Mem P base S η w) (hr:RepL P w η (Fix P S η) l vs) (he:∀ v w',((run vs).run P w=.ok v w')→(execOp a.eval o).run P w=.ok (.value v) w') {K:D→St→Prop} {Q:Exit→Act→World→Prop}
  (h:DRun P run l S K):o.wp P a w (Left P base S η w a o.dst K) Q:=by
 obtain ⟨d,S',η',v,w',k1,k2,k3,k4⟩:=h base η w vs hM hr
 exact wp_value (he v w' k1) ⟨d,v,S',η',k2,k4,k3,rfl⟩
theorem wp_of_mapUpdate {o:Oper} {t:TypeId} {l:List D} {x y z:Value} (hM:Mem P base S η w) (hr:RepL P w η (Fix P S η) l [x,y,z]) (he:execOp a.eval o=(do Instr.mapUpdate t x y z;pure .skip)) {K:D→St→Prop} {Q:Exit→Act→World→Prop}
  (h:DRun P (fun vs=>do Instr.mapUpdate t (vs.getD 0 undef) (vs.getD 1 undef) (vs.getD 2 undef);pure undef) l S fun d S'=>d=undefD∧K d S'):o.wp P a w (Left P base S η w a o.dst K) Q:=by
 obtain ⟨d,S',η',v,w',k1,⟨rfl,k2⟩,k3,k4⟩:=h base η w _ hM hr
 simp only [List.getD_cons_zero,List.getD_cons_succ,Sem.run_bind] at k1
 unfold Oper.wp
 rw [he,Sem.run_bind]
 cases hu:(Instr.mapUpdate t x y z).run P w with
 | ok u w1 =>
  rw [hu] at k1
  simp only [Result.andThen_ok,Sem.run_pure,Result.ok.injEq] at k1
  obtain ⟨rfl,rfl⟩:=k1
  simp only [Result.andThen_ok,Sem.run_pure]
  exact ⟨undefD,_,S',η',k2,k4,by simp only [Rep,RepL];exact ⟨[],rfl,rfl⟩,rfl⟩
 | _=>rw [hu] at k1;cases k1
theorem run_step_builtin {dst:Option Tmp} {b:Builtin} {args:Array Operand} {ts:Array TypeId} {ty:TypeId} {pos:String} {after:Array Edge} {guard:Option (Nat × Bool)} {s:Array Value→Sem Value} {v:Value} {w':World}
  (hv:(s (args.toList.map a.eval).toArray).run P w=.ok v w') (hb:builtin b ts ty (args.map isConstB)=fun vs=>do pure (.value (← s vs))):(execOp a.eval ⟨dst,.call ⟨.builtin b,args,ts⟩,ty,pos,after,guard⟩).run P w=.ok (.value v) w':=by
 rw [run_builtin_op,hb]
 have:(args.toList.map a.eval).toArray=args.map a.eval:=by apply Array.ext';simp
 rw [this] at hv
 simp only [Sem.run_bind,hv]
 rfl
theorem dop_sound (hM:Mem P base S η w) (hf:RepF P w η (Fix P S η) f a) {o:Oper} (hop:opsOk a.tmps.size o.op=true) {K:D→St→Prop} {Q:Exit→Act→World→Prop}
  (h:dop P f S o.type o.op K):o.wp P a w (Left P base S η w a o.dst K) Q:=by
 have hop':=opsOk_spec hop
 obtain ⟨dst,op,ty,pos,after,guard⟩:=o
 cases op with
 | alloc t =>
  simp only [dop] at h
  obtain ⟨h1,h2⟩:=h
  obtain ⟨z,i,hi,hz,hzd,hz1,_⟩:=zeroOk_spec h1
  have hrun:(execOp a.eval ⟨dst,.alloc t,ty,pos,after,guard⟩).run P w=.ok (.value (.pointer (some ⟨w.heap.size,0,none⟩))) (w.alloc (.cells z.cells t)):=by
   unfold execOp
   simp only
   rw [Sem.run_bind,run_alloc_new t hi hz]
   rfl
  rw [hzd] at h2
  have G:=goes_name hM (.box t (z.cells.toList.map ofV)) z.cells t (.inl ⟨_,z.cells.toList,rfl,by simp,zeroD_rep _,hz1⟩)
  exact wp_value hrun ⟨_,_,_,_,h2,G,by simp only [Rep];exact ⟨w.heap.size,by simp only [Names.add,↓reduceIte],rfl⟩,rfl⟩
 | box t x =>
  simp only [dop] at h
  obtain ⟨h1,h2⟩:=h
  have hx:=(hf.ev (hop' x (by simp [Op.operands]))).cells_ h1
  have hrun:(execOp a.eval ⟨dst,.box t x,ty,pos,after,guard⟩).run P w=.ok (.value (.pointer (some ⟨w.heap.size,0,none⟩))) (w.alloc (.cells (a.eval x).cells t)):=by
   unfold execOp
   simp only
   rw [Sem.run_bind,run_box_new]
   rfl
  have G:=goes_name hM (.box t (ev f x).cells) (a.eval x).cells t (.inl ⟨_,(a.eval x).cells.toList,rfl,by simp,hx.1,hx.2.1⟩)
  exact wp_value hrun ⟨_,_,_,_,h2,G,by simp only [Rep];exact ⟨w.heap.size,by simp only [Names.add,↓reduceIte],rfl⟩,rfl⟩
 | store t x y =>
  simp only [dop] at h
  have h1:=hf.ev (hop' x (by simp [Op.operands]))
  have h2:=hf.ev (hop' y (by simp [Op.operands]))
  split at h
  ·rename_i k off hx
   rw [hx] at h1
   simp only [Rep] at h1
   obtain ⟨b,e1,e2⟩:=h1
   split at h
   ·rename_i t' cs hk
    obtain ⟨g1,g2,g3,g4,g5⟩:=h
    obtain ⟨i,hi⟩:=Option.isSome_iff_exists.1 g2
    have hsz:szOf P t=i.size:=by simp [szOf,hi]
    obtain ⟨c1,c2,c3⟩:=h2.cells_ g1
    obtain ⟨vs,k1,k2,k3⟩:=hM.box k t' cs b hk e1
    have hl:=k2.length
    have hrun:(execOp a.eval ⟨dst,.store t x y,ty,pos,after,guard⟩).run P w=.ok .skip (w.setRow b (vs.take off++(a.eval y).cells.toList++vs.drop (off+(a.eval y).cells.toList.length)).toArray):=by
     unfold execOp
     simp only
     rw [Sem.run_bind,e2,run_store_box k1 hi (by rw [c3,g3,hsz]) c2 (by omega)]
     rfl
    have hcl:(splice cs off (ev f y).cells).length=cs.length:=by
     have:(ev f y).cells.length=szOf P t:=g3
     simp only [splice,List.length_append,List.length_take,List.length_drop]
     omega
    have G:=goes_set hM hk e1 hcl (splice_rep k2 c1) (fun u hu=>by
     rcases List.mem_append.1 hu with hu | hu
     ·rcases List.mem_append.1 hu with hu | hu
      ·exact k3 u (List.mem_of_mem_take hu)
      ·exact c2 u hu
     ·exact k3 u (List.mem_of_mem_drop hu))
    unfold Oper.wp
    rw [hrun]
    exact ⟨_,_,_,_,g5,G,by simp only [Rep,RepL];exact ⟨[],rfl,rfl⟩,rfl⟩
   ·exact h.elim
  ·exact h.elim
 | buildSlice t n ps=>exact wp_of_new hM hf hop h
 | build t ps=>exact wp_of_new hM hf hop h
 | convert s t x =>
  simp only [dop] at h
  cases hd:dnew P f S (.convert s t x) with
  | some p =>
   rw [hd,orD_some] at h
   refine wp_of_new hM hf hop ?_
   show onVal (dnew P f S (.convert s t x)) _
   rw [hd]
   exact h
  | none =>
   rw [hd,orD_none] at h
   exact wp_of_val hM hf hop h
 | call cl =>
  obtain ⟨callee,args,ts⟩:=cl
  cases callee with
  | value x =>
   simp only [dop] at h
   split at h
   ·rename_i g fs cs hx
    exact wp_of_call hM hf dst x args ts ty pos after guard hop' hx h
   ·exact h.elim
  | invoke r m =>
   simp only [dop] at h
   split at h
   ·rename_i t d hx
    obtain ⟨g,d',h1,h2⟩:=h
    exact wp_of_invoke hM hf dst r m args ts ty pos after guard hop' hx h1 h2
   ·exact h.elim
  | builtin b =>
   by_cases hb:b=.append
   ·subst hb
    simp only [dop] at h
    split at h
    ·rename_i own es own2 es2 t tx h1 h2
     split at h
     ·rename_i e he
      rcases h with ⟨k1,k2,k3,k4,k5,k6,k7,k8⟩ | ⟨rfl,rfl,j1,j2,j3,j4,j5,j6,j7,j8⟩ | h
      rotate_left 2
      ·have hr:=repL_map hf (l:=args.toList) (fun x hx=>hop' x (by simp only [Op.operands,Call.operands,Array.mem_append];exact .inr (by simpa using hx)))
       exact wp_of_step hM hr (fun v w' hv=>run_step_builtin hv rfl) h
      rotate_right
      ·obtain ⟨c,zs,v',η',w',j11,j12,g1,g2,g3⟩:=append_win_op (ty:=ty) (cs:=args.map isConstB) hM hf (fun x hx=>hop' x (by simp only [Op.operands,Call.operands,Array.mem_append];exact .inr (by simpa using hx))) h1 h2 he j2 j3 j4 j5 j1 j6 j7
       exact wp_value (by rw [run_builtin_op];exact g1) ⟨_,v',_,η',j8 c zs j11 j12,g2,g3,rfl⟩
      have hown:own=.full∨∃ g,own=.row g∧S.ob g=some (.row e es.length):=by
       cases own with
       | no=>exact k5.elim
       | full=>exact .inl rfl
       | row g=>exact .inr ⟨g,rfl,k5⟩
      obtain ⟨v',η',w',g1,g2,g3⟩:=append_op (ty:=ty) (cs:=args.map isConstB) hM hf (fun x hx=>hop' x (by simp only [Op.operands,Call.operands,Array.mem_append];exact .inr (by simpa using hx))) h1 h2 he k1 k2 k3 k4 hown k6 k7
      exact wp_value (by rw [run_builtin_op];exact g1) ⟨_,v',_,η',k8,g2,g3,rfl⟩
     ·exact h.elim
    ·rename_i k off n c r h1
     have hr:=repL_map hf (l:=args.toList) (fun x hx=>hop' x (by simp only [Op.operands,Call.operands,Array.mem_append];exact .inr (by simpa using hx)))
     rw [h1] at hr
     exact wp_of_step hM hr (fun v w' hv=>run_step_builtin hv rfl) h
    ·rename_i own es k off n c h1
     have hr:=repL_map hf (l:=args.toList) (fun x hx=>hop' x (by simp only [Op.operands,Call.operands,Array.mem_append];exact .inr (by simpa using hx)))
     rw [h1] at hr
     exact wp_of_step hM hr (fun v w' hv=>run_step_builtin hv rfl) h
    ·rename_i own es u h1
     have hr:=repL_map hf (l:=args.toList) (fun x hx=>hop' x (by simp only [Op.operands,Call.operands,Array.mem_append];exact .inr (by simpa using hx)))
     rw [h1] at hr
     exact wp_of_step hM hr (fun v w' hv=>run_step_builtin hv rfl) h
    ·exact h.elim
   ·have hr:=repL_map hf (l:=args.toList) (fun x hx=>hop' x (by simp only [Op.operands,Call.operands,Array.mem_append];exact .inr (by simpa using hx)))
    cases b with
    | append=>exact absurd rfl hb
    | copy=>exact wp_of_step hM hr (fun v w' hv=>run_step_builtin hv rfl) h
    | clear=>exact wp_of_step hM hr (fun v w' hv=>run_step_builtin hv rfl) h
    | delete=>exact wp_of_step hM hr (fun v w' hv=>run_step_builtin hv rfl) h
    | _=>exact wp_of_val hM hf hop h
 | makeSlice t x y =>
  exact wp_of_step hM (vs:=[a.eval x,a.eval y]) (by simp only [RepL];exact ⟨_,_,rfl,hf.ev (hop' x (by simp [Op.operands])),_,_,rfl,hf.ev (hop' y (by simp [Op.operands])),rfl⟩) (fun v w' hv=>by unfold execOp;simp only [List.getD_cons_zero,List.getD_cons_succ] at hv;simp only [Sem.run_bind,hv];rfl) h
 | typeAssert x xt t ok =>
  exact wp_of_step hM (vs:=[a.eval x]) (by simp only [RepL];exact ⟨_,_,rfl,hf.ev (hop' x (by simp [Op.operands])),rfl⟩) (fun v w' hv=>by unfold execOp;simp only [List.getD_cons_zero] at hv;simp only [Sem.run_bind,hv];rfl) h
 | lookup t x i ok =>
  exact wp_of_step hM (vs:=[a.eval x,a.eval i]) (by simp only [RepL];exact ⟨_,_,rfl,hf.ev (hop' x (by simp [Op.operands])),_,_,rfl,hf.ev (hop' i (by simp [Op.operands])),rfl⟩) (fun v w' hv=>by unfold execOp;simp only [List.getD_cons_zero,List.getD_cons_succ] at hv;simp only [Sem.run_bind,hv];rfl) h
 | makeMap t r =>
  have hr:=repL_map hf (l:=r.toList) (fun x hx=>hop' x (by simpa [Op.operands] using hx))
  exact wp_of_step hM hr (fun v w' hv=>by
   unfold execOp
   have:(r.toList.map a.eval).head? = r.map a.eval:=by cases r <;> rfl
   rw [this] at hv
   simp only [Sem.run_bind,hv];rfl) h
 | mapUpdate t m k x=>exact wp_of_mapUpdate (t:=t) hM (x:=a.eval m) (y:=a.eval k) (z:=a.eval x) (by simp only [RepL];exact ⟨_,_,rfl,hf.ev (hop' m (by simp [Op.operands])),_,_,rfl,hf.ev (hop' k (by simp [Op.operands])),_,_,rfl,hf.ev (hop' x (by simp [Op.operands])),rfl⟩) rfl h
 | insert t m k x=>exact wp_of_mapUpdate (t:=t) hM (x:=a.eval m) (y:=a.eval k) (z:=a.eval x) (by simp only [RepL];exact ⟨_,_,rfl,hf.ev (hop' m (by simp [Op.operands])),_,_,rfl,hf.ev (hop' k (by simp [Op.operands])),_,_,rfl,hf.ev (hop' x (by simp [Op.operands])),rfl⟩) rfl h
 | _=>exact wp_of_val hM hf hop h
def gval (ops:Array Oper) (f:Fm) (o:Oper):Option Bool:=match o.guard with
 | none=>some true
 | some (j,want)=>match (ops[j]?).bind (·.dst) with
  | some t=>match f t with
   | .v (.bool b)=>some (b == want)
   | .tup []=>some false
   | _=>none
  | none=>none
theorem dwanted_iff {ops:Array Oper} {o:Oper} {y n:Prop}:dwanted ops f o y n↔∃ g,gval ops f o=some g∧(g=true→y)∧(g=false→n):=by
 unfold dwanted gval
 cases o.guard with
 | none=>simp
 | some p =>
  obtain ⟨j,want⟩:=p
  simp only
  cases (ops[j]?).bind (·.dst) with
  | none=>simp
  | some t =>
   simp only
   generalize f t=x
   cases x with
   | v u=>cases u with
    | bool b=>cases b <;> cases want <;> simp
    | _=>simp
   | tup l=>cases l <;> simp
   | _=>simp
def operOk (n:Nat) (ops:Array Oper) (o:Oper):Bool:=opsOk n o.op && match o.guard with
 | none=>true
 | some (j,_)=>match (ops[j]?).bind (·.dst) with
  | some t=>Nat.blt t n
  | none=>true
theorem gval_spec (hf:RepF P w η (Fix P S η) f a) {ops:Array Oper} {o:Oper} (hok:operOk a.tmps.size ops o=true) {g:Bool} (h:gval ops f o=some g):Region.wanted o (yielded ops a.tmps)=g:=by
 simp only [operOk,Bool.and_eq_true] at hok
 obtain ⟨_,hok⟩:=hok
 unfold gval at h
 unfold Region.wanted
 cases hg:o.guard with
 | none=>rw [hg] at h;simpa using h
 | some p =>
  obtain ⟨j,want⟩:=p
  rw [hg] at h hok
  simp only at h hok ⊢
  cases hd:(ops[j]?).bind (·.dst) with
  | none=>rw [hd] at h;cases h
  | some t =>
   rw [hd] at h hok
   simp only at h hok
   have hlt:t<a.tmps.size:=by simpa [Nat.blt_eq] using hok
   have hr:=hf t hlt
   have hget:a.tmps[t]? = some (a.tmps.getD t undef):=by simp [hlt]
   split at h
   ·rename_i b hb
    rw [hb] at hr
    simp only [Rep] at hr
    injection h with h
    rw [hr] at hget
    simp only [yielded,hd,Option.bind_some,hget]
    rw [← h]
    cases b <;> cases want <;> rfl
   ·rename_i hb
    rw [hb] at hr
    simp only [Rep,RepL] at hr
    obtain ⟨vs,hr,rfl⟩:=hr
    injection h with h
    rw [hr] at hget
    simp only [yielded,hd,Option.bind_some,hget]
    rw [← h]
    rfl
   ·cases h
theorem repL_bv {X:Nat→Nat→Prop}:∀ {l:List UInt8} {vs:List Value},RepL P w η X (l.map bD) vs→vs=l.map bv
 | [],vs,h=>by simpa [RepL] using h
 | x::l,vs,h=>by
  simp only [List.map_cons,RepL] at h
  obtain ⟨u,us,rfl,h1,h2⟩:=h
  rw [repL_bv h2]
  simp only [bD,Rep] at h1
  rw [h1];rfl
theorem flat_bv:∀ bs:List UInt8,(bs.map bv).flatMap (fun v=>v.cells.toList)=bs.map bv
 | []=>rfl
 | x::bs=>by
  simp only [List.map_cons,List.flatMap_cons]
  rw [flat_bv bs]
  rfl
theorem dops_sound_n {ops:Array Oper} {Q:Fm→St→Prop} {Q':Exit→Act→World→Prop}:∀ (n:Nat) (l:List Oper) {S:St} {η:Names} {w:World} {f:Fm} {a:Act},l.length≤n→(∀ o∈l,operOk a.tmps.size ops o=true)→Mem P base S η w→RepF P w η (Fix P S η) f a→dops P ops Q l f S →
  (∀ f' S' η' w' a',Q f' S'→Goes P base S η w S' η' w'→RepF P w' η' (Fix P S' η') f' a'→a'.tmps.size=a.tmps.size→a'.defers=a.defers→Q' .normal a' w')→wpList P ops Q' l a w
 | _,[],S,η,w,f,a,_,_,hM,hf,h,hq=>hq f S η w a h (Goes.refl hM) hf rfl rfl
 | 0,o::l,S,η,w,f,a,hln,hok,hM,hf,h,hq=>absurd hln (by simp)
 | n+1,o::l,S,η,w,f,a,hln,hok,hM,hf,h,hq=>by
  simp only [List.length_cons] at hln
  have ho:=hok o (by simp)
  have size_put:∀ (a:Act) (dst:Option Tmp) (v:Value),(a.put dst v).tmps.size=a.tmps.size:=fun a dst v=>by cases dst <;> simp [Act.put]
  have def_put:∀ (a:Act) (dst:Option Tmp) (v:Value),(a.put dst v).defers=a.defers:=fun a dst v=>by cases dst <;> rfl
  rw [dops_cons] at h
  obtain ⟨g,hg,hy,hno⟩:=dwanted_iff.1 h
  have hwt:=gval_spec hf ho hg
  have hop:opsOk a.tmps.size o.op=true:=by simp only [operOk,Bool.and_eq_true] at ho;exact ho.1
  unfold wpList
  cases g with
  | true =>
   rw [if_pos hwt]
   refine .inl ?_
   rcases dbs_or (hy rfl) with hA | hB
   ·have:=dop_sound (Q:=Q') hM hf hop hA
    refine Oper.wp_mono (fun a' w' ⟨d,v,S',η',k1,k2,k3,k4⟩=>?_) this
    subst k4
    exact dops_sound_n n l (by omega) (fun o' ho'=>by rw [size_put];exact hok o' (by simp [ho'])) k2.mem ((k2.repF hf).put k3 o.dst) k1 (fun f' S'' η'' w'' a'' g1 g2 g3 g4 g5=>hq f' S'' η'' w'' a'' g1 (k2.trans g2) g3 (g4.trans (size_put _ _ _)) (g5.trans (def_put _ _ _)))
   ·unfold dlit at hB
    split at hB
    ·rename_i t m ps o2 r2 hopq
     obtain ⟨e,bs,k,b1,b2,b3,b4,b5,b6,b7,hdst,hop2,hw2⟩:=hB
     have ho2:=hok o2 (by simp)
     have hpe:=opsOk_spec hop
     rw [hopq] at hpe
     have hr:=parts_rep hf ps.toList fun p hp=>hpe p.2 (by simp only [Op.operands];simp;exact ⟨p.1,by simpa using hp⟩)
     rw [b7] at hr
     have hvs:=repL_bv hr
     have hlen:bs.length=m:=by
      have h1:=congrArg List.length b6
      have h2:=congrArg List.length b7
      simp only [List.length_map,List.length_range] at h1 h2
      omega
     have hrun1:=run_buildSlice_at (w:=w) b1 b3 m (ps.map fun (i,x)=>(i,a.eval x)) (by simpa [Function.comp_def] using b6) (fun q hq=>by
      simp only [Array.toList_map,List.mem_map] at hq
      obtain ⟨p,hp,rfl⟩:=hq
      have hm:a.eval p.2∈ps.toList.map fun p=>a.eval p.2:=List.mem_map.2 ⟨p,hp,rfl⟩
      rw [hvs] at hm
      obtain ⟨u,_,hu⟩:=List.mem_map.1 hm
      show (a.eval p.2).cells.size=_
      rw [← hu,b4];rfl) (by rw [b4];omega)
     have hfl:((ps.map fun (i,x)=>(i,a.eval x)).toList.flatMap fun q=>q.2.cells.toList)=bs.map bv:=by
      have h1:((ps.map fun (i,x)=>(i,a.eval x)).toList.flatMap fun q=>q.2.cells.toList)=(ps.toList.map fun p=>a.eval p.2).flatMap fun v=>v.cells.toList:=by simp [List.flatMap_map]
      rw [h1,hvs,flat_bv]
     rw [hfl] at hrun1
     have G1:=goes_new hM (.cells (bs.map bv).toArray e)
     have G2:=goes_new hM (.cells (bs.map bv).toArray e ((bs.map bv).toArray.size,(bs.map bv).toArray.size+1))
     have hR2:=rep_lit hM bs e (by omega)
     have hR1:Rep P (w.alloc (.cells (bs.map bv).toArray e)) η (Fix P S η) (.sl .no (bs.map bD)) (.slice (some ⟨w.heap.size,0,none⟩) bs.length bs.length):=rep_lit0 hM bs e (by omega)
     rw [hlen] at hR1 hR2
     have e1:(execOp a.eval o).run P w=.ok (.value (.slice (some ⟨w.heap.size,0,none⟩) m m)) (w.alloc (.cells (bs.map bv).toArray e)):=by
      unfold execOp
      rw [hopq]
      simp only
      rw [Sem.run_bind,hrun1]
      rfl
     refine wp_value e1 ?_
     have hf1:=(G1.repF hf).put hR1 o.dst
     obtain ⟨g2,hg2,hy2,hn2⟩:=dwanted_iff.1 hw2
     have ho2':operOk (a.put o.dst (.slice (some ⟨w.heap.size,0,none⟩) m m)).tmps.size ops o2=true:=by rw [size_put];exact ho2
     have hwt2:=gval_spec hf1 ho2' hg2
     cases g2 with
     | false=>exact (hn2 rfl).elim
     | true =>
      unfold wpList
      rw [if_pos hwt2]
      refine .inl ?_
      have hk:k<a.tmps.size:=by
       have h1:opsOk a.tmps.size o2.op=true:=by simp only [operOk,Bool.and_eq_true] at ho2;exact ho2.1
       rw [hop2] at h1
       have:=opsOk_spec h1 (.tmp k) (by simp [Op.operands])
       simpa [opnOk,Nat.blt_eq] using this
      have hev:(a.put o.dst (.slice (some ⟨w.heap.size,0,none⟩) m m)).eval (.tmp k)=.slice (some ⟨w.heap.size,0,none⟩) m m:=by
       rw [hdst]
       simp [Act.put,Act.eval,hk]
      have e2:(execOp (a.put o.dst (.slice (some ⟨w.heap.size,0,none⟩) m m)).eval o2).run P (w.alloc (.cells (bs.map bv).toArray e))=.ok (.value (.slice (some ⟨w.heap.size,0,none⟩) m m)) (w.alloc (.cells (bs.map bv).toArray e ((bs.map bv).toArray.size,(bs.map bv).toArray.size+1))):=by
       unfold execOp
       rw [hop2]
       simp only [hev]
       rw [Sem.run_bind,Go.Lib.run_convert_bytes_const w t e _ m m (elT_spec b1) (u8T_spec b2)]
       rfl
      refine wp_value e2 ?_
      have hf2:=((G2.repF hf).put hR2 o.dst).put hR2 o2.dst
      exact dops_sound_n n r2 (by simp only [List.length_cons] at hln;omega) (fun o' ho'=>by rw [size_put,size_put];exact hok o' (by simp [ho'])) G2.mem hf2 (hy2 rfl) (fun f' S'' η'' w'' a'' g1 g2 g3 g4 g5=>hq f' S'' η'' w'' a'' g1 (G2.trans g2) g3 (g4.trans ((size_put _ _ _).trans (size_put _ _ _))) (g5.trans ((def_put _ _ _).trans (def_put _ _ _))))
    ·exact hB.elim
  | false =>
   rw [if_neg (by rw [hwt];simp)]
   have hu:Rep P w η (Fix P S η) undefD undef:=by simp only [Rep,RepL];exact ⟨[],rfl,rfl⟩
   exact dops_sound_n n l (by omega) (fun o' ho'=>by rw [size_put];exact hok o' (by simp [ho'])) hM (hf.put hu o.dst) (hno rfl) (fun f' S'' η'' w'' a'' g1 g2 g3 g4 g5=>hq f' S'' η'' w'' a'' g1 g2 g3 (g4.trans (size_put _ _ _)) (g5.trans (def_put _ _ _)))
theorem dops_sound {ops:Array Oper} {Q:Fm→St→Prop} {Q':Exit→Act→World→Prop} (l:List Oper) {S:St} {η:Names} {w:World} {f:Fm} {a:Act} (h1:∀ o∈l,operOk a.tmps.size ops o=true) (h2:Mem P base S η w) (h3:RepF P w η (Fix P S η) f a) (h4:dops P ops Q l f S)
  (h5:∀ f' S' η' w' a',Q f' S'→Goes P base S η w S' η' w'→RepF P w' η' (Fix P S' η') f' a'→a'.tmps.size=a.tmps.size→a'.defers=a.defers→Q' .normal a' w'):wpList P ops Q' l a w:=dops_sound_n l.length l (Nat.le_refl _) h1 h2 h3 h4 h5

/-! ### A region that draws its order -/
def dquietR (P:Program) (f:Fm) (S:St) (ty:TypeId) (op:Op) (d:D):Prop:=match op with
 | .call ⟨.value x,args,_⟩=>match ev f x with
  | .fn (.func g) fs cs=>DSt P g (fs++args.toList.map (ev f)++cs) S d
  | _=>False
 | op=>onVal2 (dnew P f S op) (dval P f S ty op) fun d'=>d'=d
theorem onVal_iff {o:Option (Prop × D)} {K:D→Prop}:onVal o K↔∃ d,onVal o (fun d'=>d'=d)∧K d:=by
 cases o with
 | some p=>obtain ⟨c,d⟩:=p;exact ⟨fun h=>⟨d,⟨h.1,rfl⟩,h.2⟩,fun ⟨_,⟨h1,h2⟩,h3⟩=>⟨h1,h2 ▸ h3⟩⟩
 | none=>exact ⟨fun h=>h.elim,fun ⟨_,h,_⟩=>h.elim⟩
theorem onVal2_iff {o o':Option (Prop × D)} {K:D→Prop}:onVal2 o o' K↔∃ d,onVal2 o o' (fun d'=>d'=d)∧K d:=by
 cases o with
 | some p=>obtain ⟨c,d⟩:=p;exact ⟨fun h=>⟨d,⟨h.1,rfl⟩,h.2⟩,fun ⟨_,⟨h1,h2⟩,h3⟩=>⟨h1,h2 ▸ h3⟩⟩
 | none=>exact onVal_iff
theorem dquiet_iff {f:Fm} {S:St} {ty:TypeId} {op:Op} {K:D→Prop}:dquiet P f S ty op K↔∃ d,dquietR P f S ty op d∧K d:=by
 unfold dquiet dquietR
 cases op with
 | call cl =>
  obtain ⟨callee,args,ts⟩:=cl
  cases callee with
  | value x =>
   dsimp only
   generalize ev f x=y
   cases y with
   | fn g fs cs=>cases g <;> simp
   | _=>simp
  | builtin b=>exact onVal2_iff
  | invoke r m=>exact onVal2_iff
 | _=>exact onVal2_iff
theorem dquiet_sound (hM:Mem P base S η w) (hf:RepF P w η (Fix P S η) f a) {o:Oper} (hop:opsOk a.tmps.size o.op=true) {d:D} {Q:Exit→Act→World→Prop}
  (h:dquietR P f S o.type o.op d):o.wp P a w (Left P base S η w a o.dst fun d' S'=>d'=d∧S'=S) Q:=by
 have hop':=opsOk_spec hop
 obtain ⟨dst,op,ty,pos,after,guard⟩:=o
 unfold dquietR at h
 simp only at h
 split at h
 ·rename_i x args ts
  split at h
  ·rename_i g fs cs hx
   exact wp_of_call hM hf dst x args ts ty pos after guard hop' hx (h S (Nat.le_refl _) fun _ _ h=>h)
  ·exact h.elim
 ·have up:∀ o:Option (Prop × D),onVal o (fun d'=>d'=d)→onVal o (fun d'=>d'=d∧S=S):=fun o ho=>by
   cases o with
   | some p=>exact ⟨ho.1,ho.2,rfl⟩
   | none=>exact ho
  cases hd:dnew P f S op with
  | some p =>
   rw [hd] at h
   refine wp_of_new hM hf hop ?_
   show onVal (dnew P f S op) _
   rw [hd]
   exact up (some p) h
  | none =>
   rw [hd] at h
   exact wp_of_val hM hf hop (up _ h)
theorem ev_lists {f f':Fm} {l:List Operand} (h:∀ x∈l,ev f x=ev f' x):l.map (ev f)=l.map (ev f'):=List.map_congr_left h
theorem bnd_congr {f f':Fm} {o:Option Operand} {d:Int} (h:∀ x,o=some x→ev f x=ev f' x):bnd f o d=bnd f' o d:=by
 cases o with
 | none=>rfl
 | some x=>simp only [bnd,h x rfl]
theorem dval_congr {f f':Fm} {S:St} {ty:TypeId} {op:Op} (h:∀ x∈op.operands,ev f x=ev f' x):dval P f S ty op=dval P f' S ty op:=by
 cases op with
 | slice t x lo hi mx =>
  have h1:=h x (by simp [Op.operands])
  have h2:∀ d,bnd f lo d=bnd f' lo d:=fun d=>bnd_congr fun y hy=>h y (by simp [Op.operands,hy])
  have h3:∀ d,bnd f hi d=bnd f' hi d:=fun d=>bnd_congr fun y hy=>h y (by simp [Op.operands,hy])
  cases mx with
  | none=>simp only [dval,h1,h2,h3]
  | some mx =>
   have h4:∀ d,bnd f (some mx) d=bnd f' (some mx) d:=fun d=>bnd_congr fun y hy=>h y (by injection hy with hy;subst hy;simp [Op.operands])
   simp only [dval,h1,h2,h3,h4]
 | makeFunc fn fs cs =>
  have h1:=ev_lists (l:=fs.toList) fun x hx=>h x (by simp only [Op.operands,Array.mem_append];exact .inl (by simpa using hx))
  have h2:=ev_lists (l:=cs.toList) fun x hx=>h x (by simp only [Op.operands,Array.mem_append];exact .inr (by simpa using hx))
  simp only [dval,h1,h2]
 | call c =>
  obtain ⟨callee,args,ts⟩:=c
  cases callee with
  | builtin b =>
   have h1:=ev_lists (l:=args.toList) fun x hx=>h x (by simp only [Op.operands,Call.operands,Array.mem_append];exact .inr (by simpa using hx))
   simp only [dval,h1]
  | value x=>rfl
  | invoke r m=>rfl
 | pick c x y =>
  have h1:=h c (by simp [Op.operands])
  have h2:=h x (by simp [Op.operands])
  have h3:=h y (by simp [Op.operands])
  simp only [dval,h1,h2,h3]
 | move x=>simp only [dval,h x (by simp [Op.operands])]
 | assign x=>simp only [dval,h x (by simp [Op.operands])]
 | load t x=>simp only [dval,h x (by simp [Op.operands])]
 | fieldAddr t x i=>simp only [dval,h x (by simp [Op.operands])]
 | field t x i=>simp only [dval,h x (by simp [Op.operands])]
 | indexAddr t x i=>simp only [dval,h x (by simp [Op.operands]),h i (by simp [Op.operands])]
 | index t x i=>simp only [dval,h x (by simp [Op.operands]),h i (by simp [Op.operands])]
 | extract x i=>simp only [dval,h x (by simp [Op.operands])]
 | makeInterface t x=>simp only [dval,h x (by simp [Op.operands])]
 | nilCheck x=>simp only [dval,h x (by simp [Op.operands])]
 | binOp op t x y u=>simp only [dval,h x (by simp [Op.operands]),h y (by simp [Op.operands])]
 | unOp op t x=>simp only [dval,h x (by simp [Op.operands])]
 | convert s t x=>simp only [dval,h x (by simp [Op.operands])]
 | _=>rfl
theorem dnew_congr {f f':Fm} {S:St} {op:Op} (h:∀ x∈op.operands,ev f x=ev f' x):dnew P f S op=dnew P f' S op:=by
 cases op with
 | buildSlice t n ps =>
  have h1:(ps.toList.map fun p=>ev f p.2)=ps.toList.map fun p=>ev f' p.2:=List.map_congr_left fun p hp=>h p.2 (by simp only [Op.operands];simp;exact ⟨p.1,by simpa using hp⟩)
  simp only [dnew,h1]
 | build t ps =>
  have h1:(ps.toList.map fun p=>(p.1,ev f p.2))=ps.toList.map fun p=>(p.1,ev f' p.2):=List.map_congr_left fun p hp=>by rw [h p.2 (by simp only [Op.operands];simp;exact ⟨p.1,by simpa using hp⟩)]
  simp only [dnew,h1]
 | convert s t x=>simp only [dnew,h x (by simp [Op.operands])]
 | call c =>
  obtain ⟨callee,args,ts⟩:=c
  cases callee with
  | builtin b =>
   have h1:=ev_lists (l:=args.toList) fun x hx=>h x (by simp only [Op.operands,Call.operands,Array.mem_append];exact .inr (by simpa using hx))
   cases b <;> first | rfl | simp only [dnew,h1]
  | value x=>rfl
  | invoke r m=>rfl
 | _=>rfl
theorem dquietR_congr {f f':Fm} {S:St} {ty:TypeId} {op:Op} {d:D} (h:∀ x∈op.operands,ev f x=ev f' x) (hq:dquietR P f S ty op d):dquietR P f' S ty op d:=by
 unfold dquietR at *
 split at hq
 ·rename_i x args ts
  have h1:=h x (by simp [Op.operands,Call.operands])
  have h2:=ev_lists (l:=args.toList) fun x hx=>h x (by simp only [Op.operands,Call.operands,Array.mem_append];exact .inr (by simpa using hx))
  rw [← h1,← h2]
  exact hq
 ·rw [← dnew_congr h,← dval_congr h]
  exact hq

theorem dval_add {f:Fm} {S:St} (hS:S.WF) (b:Ob) {ty:TypeId} {op:Op} {p:Prop × D} (h:dval P f S ty op=some p):dval P f (S.add b) ty op=some p:=by
 cases op with
 | load t x =>
  simp only [dval] at h ⊢
  split at h
  ·rename_i k off hk
   split at h
   ·rename_i t' cs hb
    have hlt:k<S.next:=by
     rcases Nat.lt_or_ge k S.next with h' | h'
     ·exact h'
     ·rw [hS k h'] at hb;cases hb
    simp only [St.add]
    rw [if_neg (by omega),hb]
    exact h
   ·cases h
  ·exact h
  ·exact h
  ·cases h
 | slice t x lo hi mx=>cases mx <;> exact h
 | _=>exact h
theorem dquietR_add {f:Fm} {S:St} (hS:S.WF) (b:Ob) {ty:TypeId} {op:Op} {d:D} (h:dquietR P f S ty op d):dquietR P f (S.add b) ty op d:=by
 have hnew:dnew P f (S.add b) op=dnew P f S op:=by cases op <;> rfl
 unfold dquietR at *
 split at h
 ·rename_i x args ts
  split at h
  ·rename_i g fs cs hx
   exact fun T h1 h2=>h T (Nat.le_trans (Nat.le_succ _) h1) fun j o ho=>h2 j o (by
    show (if j=S.next then _ else S.ob j)=_
    by_cases e:j=S.next
    ·subst e;rw [hS S.next (Nat.le_refl _)] at ho;cases ho
    ·rw [if_neg e,ho])
  ·exact h.elim
 ·rw [hnew]
  cases hd:dnew P f S op with
  | some p=>rw [hd] at h;exact h
  | none =>
   rw [hd] at h
   cases hv:dval P f S ty op with
   | none =>
    have h':onVal2 none (dval P f S ty op) (fun d'=>d'=d):=h
    rw [hv] at h'
    exact h'.elim
   | some p =>
    have h':onVal2 none (dval P f S ty op) (fun d'=>d'=d):=h
    rw [hv] at h'
    rw [dval_add hS b hv]
    exact h'
theorem dquietR_after {f:Fm} {S:St} (hS:S.WF) (u:Option Ob) {ty:TypeId} {op:Op} {d:D} (h:dquietR P f S ty op d):dquietR P f (after S u) ty op d:=by
 cases u with
 | none=>exact h
 | some b=>exact dquietR_add hS b h
/-! Any order of a region's head -/
section
variable {ops : Array Oper} {md : Region.Mode}
def newOb (P:Program) (f:Fm):Op→Option (Prop × Ob)
 | .alloc t=>some (zeroOk P t=true,.box t (zeroD P t))
 | .box t x=>some ((ev f x).okCell=true,.box t (ev f x).cells)
 | _=>none
def Yd (P:Program) (ops:Array Oper) (S:St) (o:Oper) (d:D) (u:Option Ob) (f:Fm):Prop :=
 (u=none∧((gval ops f o=some true∧dquietR P f S o.type o.op d)∨(gval ops f o=some false∧d=undefD))) ∨
 (o.guard=none∧∃ c b,newOb P f o.op=some (c,b)∧c∧u=some b∧d=.loc S.next 0)
def hOp (P:Program) (ops:Array Oper) (S:St) (i:Nat) (K:Fm→Option Ob→Prop) (f:Fm) (u:Option Ob):Prop:=match ops[i]? with
 | none=>K f u
 | some o=>∃ d u',Yd P ops S o d u' f∧(u'.isSome=true→u=none)∧K (put f o.dst d) (u'.or u)
def hAny (P:Program) (md:Region.Mode) (ops:Array Oper) (S:St) (Q:Fm→Option Ob→Prop):Nat→Array Bool→Fm→Option Ob→Prop
 | 0,L,f,u=>Region.ready md ops L=[]∧Q f u
 | n+1,L,f,u=>(Region.ready md ops L=[]→Q f u)∧∀ i∈Region.ready md ops L,hOp P ops S i (hAny P md ops S Q n (L.setIfInBounds i true)) f u
theorem hOp_mono {i:Nat} {K K':Fm→Option Ob→Prop} {f:Fm} {u:Option Ob} (h:∀ f u,K f u→K' f u) (hh:hOp P ops S i K f u):hOp P ops S i K' f u:=by
 unfold hOp at *
 split at hh
 ·exact h _ _ hh
 ·obtain ⟨d,u',h1,h2,h3⟩:=hh
  exact ⟨d,u',h1,h2,h _ _ h3⟩
theorem put_comm (f:Fm) {x y:Option Tmp} (d e:D) (h:∀ t,x=some t→y ≠ some t):put (put f x d) y e=put (put f y e) x d:=by
 cases x with
 | none=>rfl
 | some t=>cases y with
  | none=>rfl
  | some u =>
   have hne:t ≠ u:=fun e=>h t rfl (e ▸ rfl)
   funext i
   simp only [put]
   cases h1:Nat.beq i t <;> cases h2:Nat.beq i u <;> simp
   exact absurd ((Nat.eq_of_beq_eq_true h1).symm.trans (Nat.eq_of_beq_eq_true h2)) hne
theorem put_same {f:Fm} {x:Option Tmp} {d:D} {t:Nat} (h:x ≠ some t):put f x d t=f t:=by
 cases x with
 | none=>rfl
 | some u =>
  simp only [put]
  cases hb:Nat.beq t u with
  | false=>rfl
  | true=>exact absurd (by rw [Nat.eq_of_beq_eq_true hb]) h
theorem ev_put {f:Fm} {x:Option Tmp} {d:D} {y:Operand} (h:∀ t,y=.tmp t→x ≠ some t):ev (put f x d) y=ev f y:=by
 cases y with
 | tmp t=>exact put_same (h t rfl)
 | _=>rfl
theorem newOb_congr {f f':Fm} {op:Op} (h:∀ x∈op.operands,ev f x=ev f' x):newOb P f op=newOb P f' op:=by
 cases op with
 | box t x=>simp only [newOb,h x (by simp [Op.operands])]
 | _=>rfl
theorem Yd_put {o:Oper} {d e:D} {u:Option Ob} {f:Fm} {x:Option Tmp} (h:∀ t,x=some t→t ∉ o.looksAt ops):Yd P ops S o d u (put f x e)↔Yd P ops S o d u f:=by
 have hev:∀ y∈o.op.operands,ev (put f x e) y=ev f y:=fun y hy=>ev_put fun t ht hx=>h t hx (by
  subst ht
  simp only [Oper.looksAt,List.mem_append,List.mem_filterMap]
  exact .inl ⟨.tmp t,by simpa using hy,rfl⟩)
 have hg:gval ops (put f x e) o=gval ops f o:=by
  unfold gval
  cases hgd:o.guard with
  | none=>rfl
  | some p =>
   obtain ⟨j,want⟩:=p
   simp only
   cases hd:(ops[j]?).bind (·.dst) with
   | none=>rfl
   | some t =>
    simp only
    rw [put_same (fun hx=>h t hx (by simp only [Oper.looksAt,hgd,hd,List.mem_append];exact .inr (by simp)))]
 unfold Yd
 rw [hg,newOb_congr (P:=P) hev]
 exact ⟨fun h=>h.imp (fun h=>⟨h.1,h.2.imp (fun h=>⟨h.1,dquietR_congr hev h.2⟩) id⟩) id,fun h=>h.imp (fun h=>⟨h.1,h.2.imp (fun h=>⟨h.1,dquietR_congr (fun y hy=>(hev y hy).symm) h.2⟩) id⟩) id⟩
theorem hOp_put {j:Nat} {oi oj:Oper} {v:D} {ui:Option Ob} (hj:ops[j]? = some oj) (hap:oi.apart ops oj=true) {K:Fm→Option Ob→Prop} {f:Fm} {u:Option Ob} (hy:Yd P ops S oi v ui f) (hu:ui.isSome=true→u=none) (h:hOp P ops S j K (put f oi.dst v) (ui.or u)) :
  hOp P ops S j (fun f' u'=>Yd P ops S oi v ui f'∧(ui.isSome=true→u'=none)∧K (put f' oi.dst v) (ui.or u')) f u:=by
 obtain ⟨h1,h2,h3⟩:=Oper.apart_spec hap
 unfold hOp at *
 simp only [hj] at *
 obtain ⟨d,uj,hd,hk,hK⟩:=h
 refine ⟨d,uj,(Yd_put h1).1 hd,fun e=>?_,(Yd_put h3).2 hy,fun e=>?_,?_⟩
 ·have:=hk e
  cases ui with
  | none=>exact this
  | some b=>cases this
 ·have hu':=hu e
  cases uj with
  | none=>exact hu'
  | some b =>
   have:=hk rfl
   cases ui with
   | none=>cases e
   | some b'=>cases this
 ·have e:uj.or (ui.or u)=ui.or (uj.or u):=by
   cases ui with
   | none=>cases uj <;> rfl
   | some b =>
    cases uj with
    | none=>rfl
    | some b'=>have:=hk rfl;cases this
  rw [← put_comm f v d h2,← e]
  exact hK
theorem hAny_first {Q:Fm→Option Ob→Prop} {i:Nat} {oi:Oper} {v:D} {ui:Option Ob} (hi:ops[i]? = some oi) :
  ∀ (fuel:Nat) (L:Array Bool) (f:Fm) (u:Option Ob),
   (∀ j oj,ops[j]? = some oj→j ≠ i→L.getD j true=false→(∀ e∈oj.after,Region.binds md e=true→e.on ≠ i)→oi.apart ops oj=true) →
   i∈Region.ready md ops L→Yd P ops S oi v ui f→(ui.isSome=true→u=none)→hAny P md ops S Q fuel (L.setIfInBounds i true) (put f oi.dst v) (ui.or u)→hAny P md ops S Q (fuel+1) L f u:=by
 have here:∀ {K:Fm→Option Ob→Prop} {f:Fm} {u:Option Ob},Yd P ops S oi v ui f→(ui.isSome=true→u=none)→K (put f oi.dst v) (ui.or u)→hOp P ops S i K f u:=fun hy hu hk=>by
  unfold hOp;simp only [hi];exact ⟨v,ui,hy,hu,hk⟩
 intro fuel
 induction fuel with
 | zero =>
  intro L f u _ hr hy hu H
  refine ⟨fun h=>(by rw [h] at hr;cases hr),fun j hj=>?_⟩
  by_cases hji:j=i
  ·subst hji;exact here hy hu H
  ·have:=ready_mono hj hji
   rw [H.1] at this
   cases this
 | succ fuel ih =>
  intro L f u hfree hr hy hu H
  refine ⟨fun h=>(by rw [h] at hr;cases hr),fun j hj=>?_⟩
  by_cases hji:j=i
  ·subst hji;exact here hy hu H
  ·have h1:=H.2 j (ready_mono hj hji)
   obtain ⟨hjun,oj,hoj,hall⟩:=mem_ready.1 hj
   have hnot:∀ e∈oj.after,Region.binds md e=true→e.on ≠ i:=fun e he hb heq=>by
    have h1:=hall e he hb
    have h0:=(mem_ready.1 hr).1
    rw [heq] at h1
    rcases Nat.lt_or_ge i L.size with h' | h'
    ·simp [h'] at h0 h1;rw [h0] at h1;cases h1
    ·simp [Array.getElem?_eq_none h'] at h1
   have h2:=hOp_put hoj (hfree j oj hoj hji hjun hnot) hy hu h1
   have hfree':∀ k ok,ops[k]? = some ok→k ≠ i→(L.setIfInBounds j true).getD k true=false →
     (∀ e∈ok.after,Region.binds md e=true→e.on ≠ i)→oi.apart ops ok=true:=fun k ok hk hki hun hno=>by
    refine hfree k ok hk hki ?_ hno
    by_cases hjk:j=k
    ·subst hjk;exact hjun
    ·rw [getD_set_ne true hjk] at hun;exact hun
   refine hOp_mono (fun a' u' h3=>ih (L.setIfInBounds j true) a' u' hfree' (ready_mono hr (Ne.symm hji)) h3.1 h3.2.1 ?_) h2
   rw [Array.setIfInBounds_comm _ _ hji]
   exact h3.2.2
theorem hop_iff {f:Fm} {u:Option Ob} {ty:TypeId} {op:Op} {K:D→Option Ob→Prop} (h:hop P f S u ty op K):(∃ d,dquietR P f S ty op d∧K d u)∨(u=none∧∃ c b,newOb P f op=some (c,b)∧c∧K (.loc S.next 0) (some b)):=by
 unfold hop at h
 split at h
 ·exact .inr ⟨h.1,_,_,rfl,h.2.1,h.2.2⟩
 ·exact .inr ⟨h.1,_,_,rfl,h.2.1,h.2.2⟩
 ·exact .inl (dquiet_iff.1 h)
theorem hAny_lex {Q:Fm→St→Prop}:∀ (l:List Oper) (k:Nat) (L:Array Bool) (f:Fm) (u:Option Ob),(∀ j,l[j]? = ops[k+j]?) →
  Region.lexFrom md ops l.length k L=true→dhead P ops S Q l f u→hAny P md ops S (fun f u=>Q f (after S u)) l.length L f u
 | [],_,_,_,_,_,hB,h=>⟨by simpa [Region.lexFrom] using hB,h⟩
 | o::l,k,L,f,u,hl,hB,h=>by
  have h0:ops[k]? = some o:=by simpa using (hl 0).symm
  simp only [List.length_cons,Region.lexFrom,Bool.and_eq_true] at hB
  obtain ⟨⟨hr,hf⟩,hB'⟩:=hB
  obtain ⟨v,u',hv,hu,hK⟩:∃ v u',Yd P ops S o v u' f∧(u'.isSome=true→u=none)∧dhead P ops S Q l (put f o.dst v) (u'.or u):=by
   unfold dhead at h
   cases hg:o.guard with
   | none =>
    rw [hg] at h
    rcases hop_iff h with ⟨d,h1,h2⟩ | ⟨rfl,c,b,h1,h2,h3⟩
    ·exact ⟨d,none,.inl ⟨rfl,.inl ⟨by unfold gval;rw [hg],h1⟩⟩,(fun e=>by cases e),h2⟩
    ·exact ⟨_,some b,.inr ⟨hg,c,b,h1,h2,rfl,rfl⟩,fun _=>rfl,h3⟩
   | some p =>
    rw [hg] at h
    obtain ⟨g,hg',hy,hn⟩:=dwanted_iff.1 h
    cases g with
    | true =>
     obtain ⟨d,h1,h2⟩:=dquiet_iff.1 (hy rfl)
     exact ⟨d,none,.inl ⟨rfl,.inl ⟨hg',h1⟩⟩,(fun e=>by cases e),h2⟩
    | false=>exact ⟨undefD,none,.inl ⟨rfl,.inr ⟨hg',rfl⟩⟩,(fun e=>by cases e),hn rfl⟩
  exact hAny_first h0 l.length L f u (Region.free_spec h0 hf) (by simpa using hr) hv hu
   (hAny_lex l (k+1) _ _ _ (fun j=>by have:=hl (j+1);simpa [Nat.add_assoc,Nat.add_comm 1 j] using this) hB' hK)
theorem size_put (a:Act) (dst:Option Tmp) (v:Value):(a.put dst v).tmps.size=a.tmps.size:=by cases dst <;> simp [Act.put]
theorem defers_put (a:Act) (dst:Option Tmp) (v:Value):(a.put dst v).defers=a.defers:=by cases dst <;> rfl
theorem wpAny_of_head {Q:Fm→Option Ob→Prop} {Q':Exit→Act→World→Prop} {n:Nat} (hS:S.WF) (hok:∀ (j:Nat) (o:Oper),ops[j]? = some o→operOk n ops o=true):∀ (fuel:Nat) (L:Array Bool) {η:Names} {w:World} {f:Fm} {u:Option Ob} {a:Act},Mem P base (after S u) η w→RepF P w η (Fix P (after S u) η) f a→a.tmps.size=n→hAny P md ops S Q fuel L f u →
  (∀ f' u' η' w' a',Q f' u'→Goes P base (after S u) η w (after S u') η' w'→RepF P w' η' (Fix P (after S u') η') f' a'→a'.tmps.size=n→a'.defers=a.defers→Q' .normal a' w')→wpAny P md ops Q' fuel L a w
 | 0,_,η,w,f,u,a,hM,hf,hn,h,hq=>⟨h.1,hq f u η w a h.2 (Goes.refl hM) hf hn rfl⟩
 | fuel+1,L,η,w,f,u,a,hM,hf,hn,h,hq=>by
  refine ⟨fun h0=>hq f u η w a (h.1 h0) (Goes.refl hM) hf hn rfl,fun i hi=>?_⟩
  have h2:=h.2 i hi
  have goOn:∀ {dst:Option Tmp} {d:D} {v:Value} {u1:Option Ob} {η1:Names} {w1:World},hAny P md ops S Q fuel (L.setIfInBounds i true) (put f dst d) u1→Goes P base (after S u) η w (after S u1) η1 w1→Rep P w1 η1 (Fix P (after S u1) η1) d v→wpAny P md ops Q' fuel (L.setIfInBounds i true) (a.put dst v) w1:=fun {dst d v u1 η1 w1} k1 k2 k3 =>
   wpAny_of_head hS hok fuel _ k2.mem ((k2.repF hf).put k3 dst) (by rw [size_put];exact hn) k1 (fun f' u' η' w' a' g1 g2 g3 g4 g5=>hq f' u' η' w' a' g1 (k2.trans g2) g3 g4 (by rw [g5,defers_put]))
  unfold hOp at h2
  unfold wpOp
  cases ho:ops[i]? with
  | none =>
   rw [ho] at h2
   exact wpAny_of_head hS hok fuel _ hM hf hn h2 hq
  | some o =>
   rw [ho] at h2
   simp only at h2 ⊢
   have hoo:=hok i o ho
   rw [← hn] at hoo
   obtain ⟨d,u',hy,hu,hK⟩:=h2
   have hop:opsOk a.tmps.size o.op=true:=by simp only [operOk,Bool.and_eq_true] at hoo;exact hoo.1
   rcases hy with ⟨rfl,hy⟩ | ⟨hg,c,b,h1,h2,rfl,rfl⟩
   ·rcases hy with ⟨hg,hr⟩ | ⟨hg,rfl⟩
    ·rw [if_pos (gval_spec hf hoo hg)]
     refine .inl ?_
     refine Oper.wp_mono (fun a' w' ⟨d',v,S',η',k1,k2,k3,k4⟩=>?_) (dquiet_sound (Q:=Q') hM hf hop (dquietR_after hS u hr))
     obtain ⟨rfl,rfl⟩:=k1
     subst k4
     exact goOn hK k2 k3
    ·rw [if_neg (by rw [gval_spec hf hoo hg];simp)]
     exact goOn hK (Goes.refl hM) (by simp only [Rep,RepL];exact ⟨[],rfl,rfl⟩)
   ·obtain rfl:=hu rfl
    rw [if_pos (by unfold Region.wanted;rw [hg])]
    refine .inl ?_
    have hd:dop P f S o.type o.op (fun d' S'=>d'=.loc S.next 0∧S'=S.add b):=by
     cases hop':o.op with
     | alloc t =>
      rw [hop'] at h1
      simp only [newOb] at h1
      injection h1 with h1
      injection h1 with h1 h1'
      subst h1 h1'
      exact ⟨h2,rfl,rfl⟩
     | box t x =>
      rw [hop'] at h1
      simp only [newOb] at h1
      injection h1 with h1
      injection h1 with h1 h1'
      subst h1 h1'
      exact ⟨h2,rfl,rfl⟩
     | _=>rw [hop'] at h1;cases h1
    refine Oper.wp_mono (fun a' w' ⟨d',v,S',η',k1,k2,k3,k4⟩=>?_) (dop_sound (Q:=Q') hM hf hop hd)
    obtain ⟨rfl,rfl⟩:=k1
    subst k4
    exact goOn hK k2 k3
end
end

theorem onVal_mono {o:Option (Prop × D)} {K K':D→Prop} (h:∀ d,K d→K' d) (ho:onVal o K):onVal o K':=by
 cases o with
 | some p=>exact ⟨ho.1,h _ ho.2⟩
 | none=>exact ho
theorem dop_mono {P:Program} {f:Fm} {S:St} {ty:TypeId} {op:Op} {K K':D→St→Prop} (h:∀ d S,K d S→K' d S) (ho:dop P f S ty op K):dop P f S ty op K':=by
 cases op with
 | alloc t=>simp only [dop] at *;exact ⟨ho.1,h _ _ ho.2⟩
 | box t x=>simp only [dop] at *;exact ⟨ho.1,h _ _ ho.2⟩
 | store t x y =>
  simp only [dop] at *
  split at ho
  ·split at ho
   ·exact ⟨ho.1,ho.2.1,ho.2.2.1,ho.2.2.2.1,h _ _ ho.2.2.2.2⟩
   ·exact ho
  ·exact ho
 | call cl =>
  obtain ⟨callee,args,ts⟩:=cl
  cases callee with
  | value x =>
   simp only [dop] at *
   split at ho
   ·exact ho.mono h
   ·exact ho
  | invoke r m =>
   simp only [dop] at *
   split at ho
   ·obtain ⟨g,d',h1,h2⟩:=ho
    exact ⟨g,d',h1,h2.mono h⟩
   ·exact ho
  | builtin b =>
   by_cases hb:b=.append
   ·subst hb
    simp only [dop] at *
    split at ho
    ·split at ho
     ·rcases ho with ⟨k1,k2,k3,k4,k5,k6,k7,k8⟩ | ⟨k1,k2,k3,k4,k5,k6,k7,k8,k9,k10⟩ | ho
      ·exact .inl ⟨k1,k2,k3,k4,k5,k6,k7,h _ _ k8⟩
      ·exact .inr (.inl ⟨k1,k2,k3,k4,k5,k6,k7,k8,k9,fun c zs e1 e2=>h _ _ (k10 c zs e1 e2)⟩)
      ·exact .inr (.inr (ho.mono h))
     ·exact ho
    ·exact ho.mono h
    ·exact ho.mono h
    ·exact ho.mono h
    ·exact ho
   ·cases b <;> first | exact absurd rfl hb | (simp only [dop] at *;exact onVal_mono (fun d hd=>h d S hd) ho) | exact DRun.mono ho h
 | makeSlice t x y=>exact DRun.mono ho h
 | typeAssert x xt t ok=>exact DRun.mono ho h
 | lookup t x i ok=>exact DRun.mono ho h
 | makeMap t r=>exact DRun.mono ho h
 | mapUpdate t m k x=>exact DRun.mono ho fun d S' hd=>⟨hd.1,h _ _ hd.2⟩
 | insert t m k x=>exact DRun.mono ho fun d S' hd=>⟨hd.1,h _ _ hd.2⟩
 | _=>simp only [dop] at *;exact onVal_mono (fun d hd=>h d S hd) ho
theorem dwanted_mono {ops:Array Oper} {f:Fm} {o:Oper} {y n y' n':Prop} (hy:y→y') (hn:n→n') (h:dwanted ops f o y n):dwanted ops f o y' n':=by
 obtain ⟨g,h1,h2,h3⟩:=dwanted_iff.1 h
 exact dwanted_iff.2 ⟨g,h1,fun e=>hy (h2 e),fun e=>hn (h3 e)⟩
theorem dlit_mono {P:Program} {ops:Array Oper} {f:Fm} {S:St} {o:Oper} {r:List Oper} {R R':Fm→St→Prop} (h:∀ f S,R f S→R' f S) (k:dlit P ops f S o r R):dlit P ops f S o r R':=by
 unfold dlit at *
 split at k
 ·obtain ⟨e,l,k',b1,b2,b3,b4,b5,b6,b7,b8,b9,b10⟩:=k
  exact ⟨e,l,k',b1,b2,b3,b4,b5,b6,b7,b8,b9,dwanted_mono (h _ _) (fun x=>x) b10⟩
 ·exact k.elim
theorem dops_mono_n {P:Program} {ops:Array Oper} {Q Q':Fm→St→Prop} (h:∀ f S,Q f S→Q' f S):∀ (n:Nat) (l:List Oper) {f:Fm} {S:St},l.length≤n→dops P ops Q l f S→dops P ops Q' l f S
 | _,[],_,_,_,k=>h _ _ k
 | 0,o::l,_,_,hn,_=>absurd hn (by simp)
 | n+1,o::l,f,S,hn,k=>by
  simp only [List.length_cons] at hn
  rw [dops_cons] at *
  exact dwanted_mono (dbs_mono (dop_mono fun d S' hd=>dops_mono_n h n l (by omega) hd) (dlit_mono fun f S hd=>dops_mono_n h n l.tail (by rw [List.length_tail];omega) hd)) (dops_mono_n h n l (by omega)) k
theorem dops_mono {P:Program} {ops:Array Oper} {Q Q':Fm→St→Prop} (h:∀ f S,Q f S→Q' f S) (l:List Oper) {f:Fm} {S:St} (k:dops P ops Q l f S):dops P ops Q' l f S:=dops_mono_n h l.length l (Nat.le_refl _) k
section
variable {P : Program} {base : Nat}
theorem dop_congr {f f':Fm} {S:St} {ty:TypeId} {op:Op} {K:D→St→Prop} (h:∀ x∈op.operands,ev f x=ev f' x) (hd:dop P f S ty op K):dop P f' S ty op K:=by
 cases op with
 | alloc t=>exact hd
 | box t x=>simp only [dop] at *;rw [← h x (by simp [Op.operands])];exact hd
 | store t x y=>simp only [dop] at *;rw [← h x (by simp [Op.operands]),← h y (by simp [Op.operands])];exact hd
 | call cl =>
  obtain ⟨callee,args,ts⟩:=cl
  cases callee with
  | value x =>
   have h1:=h x (by simp [Op.operands,Call.operands])
   have h2:=ev_lists (l:=args.toList) fun x hx=>h x (by simp only [Op.operands,Call.operands,Array.mem_append];exact .inr (by simpa using hx))
   simp only [dop] at *
   rw [← h1,← h2]
   exact hd
  | invoke r m =>
   have h1:=h r (by simp [Op.operands,Call.operands])
   have h2:=ev_lists (l:=args.toList) fun x hx=>h x (by simp only [Op.operands,Call.operands,Array.mem_append];exact .inr (by simpa using hx))
   simp only [dop] at *
   rw [← h1,← h2]
   exact hd
  | builtin b =>
   have h2:=ev_lists (l:=args.toList) fun x hx=>h x (by simp only [Op.operands,Call.operands,Array.mem_append];exact .inr (by simpa using hx))
   by_cases hb:b=.append
   ·subst hb
    simp only [dop] at *
    rw [← h2]
    exact hd
   ·have hv:=dval_congr (P:=P) (S:=S) (ty:=ty) h
    cases b <;> first | exact absurd rfl hb | (simp only [dop] at *;rw [← hv];exact hd) | (simp only [dop] at *;rw [← h2];exact hd)
 | makeSlice t x y=>simp only [dop] at *;rw [← h x (by simp [Op.operands]),← h y (by simp [Op.operands])];exact hd
 | typeAssert x xt t ok=>simp only [dop] at *;rw [← h x (by simp [Op.operands])];exact hd
 | lookup t x i ok=>simp only [dop] at *;rw [← h x (by simp [Op.operands]),← h i (by simp [Op.operands])];exact hd
 | makeMap t r=>have h2:=ev_lists (l:=r.toList) fun x hx=>h x (by simpa [Op.operands] using hx);simp only [dop] at *;rw [← h2];exact hd
 | mapUpdate t m k x=>simp only [dop] at *;rw [← h m (by simp [Op.operands]),← h k (by simp [Op.operands]),← h x (by simp [Op.operands])];exact hd
 | insert t m k x=>simp only [dop] at *;rw [← h m (by simp [Op.operands]),← h k (by simp [Op.operands]),← h x (by simp [Op.operands])];exact hd
 | convert s t x=>have hv:=dval_congr (P:=P) (S:=S) (ty:=ty) h;have hv2:=dnew_congr (P:=P) (S:=S) h;simp only [dop] at *;rw [← hv,← hv2];exact hd
 | buildSlice t n ps=>have hv:=dnew_congr (P:=P) (S:=S) h;simp only [dop] at *;rw [← hv];exact hd
 | build t ps=>have hv:=dnew_congr (P:=P) (S:=S) h;simp only [dop] at *;rw [← hv];exact hd
 | _=>have hv:=dval_congr (P:=P) (S:=S) (ty:=ty) h;simp only [dop] at *;rw [← hv];exact hd
variable {ops : Array Oper} {md : Region.Mode} {Zs : St → Prop}
def YdS (P:Program) (ops:Array Oper) (Zs:St→Prop) (o:Oper) (d:D) (f:Fm):Prop:=(gval ops f o=some true∧∀ S,Zs S→dquietR P f S o.type o.op d)∨(gval ops f o=some false∧d=undefD)
def dbw (P:Program) (f:Fm) (S:St) (op:Op) (K:D→St→Prop):Prop:=match op with
 | .buildSlice t n ps=>∃ e:TypeId,elT P t=some e∧zeroT P e=true∧ps.toList.map (·.1)=List.range n∧n * szOf P e≤16777216∧(∀ d∈ps.toList.map (fun p=>ev f p.2),d.okCell=true∧d.width=szOf P e)∧K (.win S.next 0 n n) (S.add (.box e (flat (ps.toList.map fun p=>ev f p.2))))
 | _=>False
def dqk (P:Program) (f:Fm) (S:St) (ty:TypeId) (op:Op) (K:D→St→Prop):Prop:=∃ d,dquietR P f S ty op d∧K d S
def dopW (P:Program) (f:Fm) (S:St) (ty:TypeId) (op:Op) (K:D→St→Prop):Prop:=dop P f S ty op K∨dbw P f S op K∨dqk P f S ty op K
theorem dbw_mono {f:Fm} {S:St} {op:Op} {K K':D→St→Prop} (h:∀ d S',K d S'→K' d S') (k:dbw P f S op K):dbw P f S op K':=by
 unfold dbw at *
 split at k
 ·obtain ⟨e,b1,b2,b3,b4,b5,b6⟩:=k
  exact ⟨e,b1,b2,b3,b4,b5,h _ _ b6⟩
 ·exact k.elim
theorem dopW_mono {f:Fm} {S:St} {ty:TypeId} {op:Op} {K K':D→St→Prop} (h:∀ d S',K d S'→K' d S') (k:dopW P f S ty op K):dopW P f S ty op K':=k.imp (dop_mono h) fun k=>k.imp (dbw_mono h) fun ⟨d,h1,h2⟩=>⟨d,h1,h _ _ h2⟩
theorem dopW_congr {f f':Fm} {S:St} {ty:TypeId} {op:Op} {K:D→St→Prop} (h:∀ x∈op.operands,ev f x=ev f' x) (k:dopW P f S ty op K):dopW P f' S ty op K:=by
 refine k.imp (dop_congr h) fun k=>k.imp (fun k=>?_) fun ⟨d,h1,h2⟩=>⟨d,dquietR_congr h h1,h2⟩
 cases op with
 | buildSlice t n ps =>
  obtain ⟨e,b1,b2,b3,b4,b5,b6⟩:=k
  have he:(ps.toList.map fun p=>ev f p.2)=ps.toList.map fun p=>ev f' p.2:=List.map_congr_left fun p hp=>h p.2 (by simp only [Op.operands];simp;exact ⟨p.1,by simpa using hp⟩)
  rw [he] at b5 b6
  exact ⟨e,b1,b2,b3,b4,b5,b6⟩
 | _=>exact k.elim
theorem dopW_sound {S:St} {η:Names} {w:World} {f:Fm} {a:Act} {Q:Exit→Act→World→Prop} (hM:Mem P base S η w) (hf:RepF P w η (Fix P S η) f a) {o:Oper} (hop0:opsOk a.tmps.size o.op=true) {K:D→St→Prop} (h:dopW P f S o.type o.op K):o.wp P a w (Left P base S η w a o.dst K) Q:=by
 rcases h with h | h | ⟨d,h1,h2⟩
 ·exact dop_sound hM hf hop0 h
 rotate_left
 ·exact Oper.wp_mono (fun a' w' ⟨d',v,S',η',k1,k2,k3,k4⟩=>⟨d',v,S',η',by obtain ⟨rfl,rfl⟩:=k1;exact h2,k2,k3,k4⟩) (dquiet_sound (Q:=Q) hM hf hop0 h1)
 ·obtain ⟨dst,op,ty,pos,after,guard⟩:=o
  have hop:=opsOk_spec hop0
  cases op with
  | buildSlice t n ps =>
   obtain ⟨e,b1,b2,b3,b4,b5,b6⟩:=h
   obtain ⟨i,z,hi,hzr,hzs,hpos,hsz,_⟩:=zeroT_spec b2
   have hr:=parts_rep hf ps.toList fun p hp=>hop p.2 (by simp only [Op.operands];simp;exact ⟨p.1,by simpa using hp⟩)
   have hlen:ps.toList.length=n:=by have:=congrArg List.length b3;simpa using this
   have hnb:n≤140737488355328:=by
    have h1:n * 1≤n * szOf P e:=Nat.mul_le_mul_left _ (by omega)
    omega
   obtain ⟨k1,k2⟩:=RepL.flat_ hr fun d hd=>(b5 d hd).1
   have hfl:((ps.map fun (i,x)=>(i,a.eval x)).toList.flatMap fun q=>q.2.cells.toList)=(ps.toList.map fun p=>a.eval p.2).flatMap fun v=>v.cells.toList:=by
    simp [List.flatMap_map]
   have hrun:=run_buildSlice_at (w:=w) b1 b2 n (ps.map fun (i,x)=>(i,a.eval x)) (by simpa [Function.comp_def] using b3) (fun q hq=>by
    simp only [Array.toList_map,List.mem_map] at hq
    obtain ⟨p,hp,rfl⟩:=hq
    have hm:ev f p.2∈ps.toList.map fun p=>ev f p.2:=List.mem_map.2 ⟨p,hp,rfl⟩
    have:=(hf.ev (hop p.2 (by simp only [Op.operands];simp;exact ⟨p.1,by simpa using hp⟩))).cells_ (b5 _ hm).1
    rw [this.2.2]
    exact (b5 _ hm).2) b4
   rw [hfl] at hrun
   have G:=goes_name hM (.box e (flat (ps.toList.map fun p=>ev f p.2))) ((ps.toList.map fun p=>a.eval p.2).flatMap fun v=>v.cells.toList).toArray e (.inl ⟨_,_,rfl,rfl,k1,k2⟩)
   have hrun':(execOp a.eval ⟨dst,.buildSlice t n ps,ty,pos,after,guard⟩).run P w=.ok (.value (.slice (some ⟨w.heap.size,0,none⟩) n n)) (w.alloc (.cells ((ps.toList.map fun p=>a.eval p.2).flatMap fun v=>v.cells.toList).toArray e)):=by
    unfold execOp
    simp only
    rw [Sem.run_bind,hrun]
    rfl
   exact wp_value hrun' ⟨_,_,_,_,b6,G,by simp only [Rep];exact .inl ⟨w.heap.size,by simp only [Names.add,↓reduceIte],rfl,Nat.le_refl _,hnb⟩,rfl⟩
  | _=>exact h.elim
def sOp (P:Program) (ops:Array Oper) (Zs:St→Prop) (i:Nat) (K:Fm→St→Prop) (f:Fm) (S:St):Prop:=match ops[i]? with
 | none=>K f S
 | some o=>(∃ d,YdS P ops Zs o d f∧K (put f o.dst d) S)∨(gval ops f o=some true∧dopW P f S o.type o.op fun d S'=>Zs S'∧K (put f o.dst d) S')
def sAny (P:Program) (md:Region.Mode) (ops:Array Oper) (Zs:St→Prop) (Q:Fm→St→Prop):Nat→Array Bool→Fm→St→Prop
 | 0,L,f,S=>Region.ready md ops L=[]∧Q f S
 | n+1,L,f,S=>(Region.ready md ops L=[]→Q f S)∧∀ i∈Region.ready md ops L,sOp P ops Zs i (sAny P md ops Zs Q n (L.setIfInBounds i true)) f S
theorem sOp_mono {i:Nat} {K K':Fm→St→Prop} {f:Fm} {S:St} (h:∀ f S,K f S→K' f S) (hh:sOp P ops Zs i K f S):sOp P ops Zs i K' f S:=by
 unfold sOp at *
 split at hh
 ·exact h _ _ hh
 ·rcases hh with ⟨d,h1,h2⟩ | ⟨h1,h2⟩
  ·exact .inl ⟨d,h1,h _ _ h2⟩
  ·exact .inr ⟨h1,dopW_mono (fun d S' hk=>⟨hk.1,h _ _ hk.2⟩) h2⟩
theorem sAny_mono {Q Q':Fm→St→Prop} (h:∀ f S,Q f S→Q' f S):∀ (fuel:Nat) (L:Array Bool) {f:Fm} {S:St},sAny P md ops Zs Q fuel L f S→sAny P md ops Zs Q' fuel L f S
 | 0,_,_,_,k=>⟨k.1,h _ _ k.2⟩
 | n+1,L,f,S,k=>⟨fun e=>h _ _ (k.1 e),fun i hi=>sOp_mono (fun f S hk=>sAny_mono h n _ hk) (k.2 i hi)⟩
theorem looks_ev {o:Oper} {x:Option Tmp} {e:D} {f:Fm} (h:∀ t,x=some t→t ∉ o.looksAt ops):∀ y∈o.op.operands,ev (put f x e) y=ev f y:=fun y hy=>ev_put fun t ht hx=>h t hx (by
  subst ht
  simp only [Oper.looksAt,List.mem_append,List.mem_filterMap]
  exact .inl ⟨.tmp t,by simpa using hy,rfl⟩)
theorem looks_gval {o:Oper} {x:Option Tmp} {e:D} {f:Fm} (h:∀ t,x=some t→t ∉ o.looksAt ops):gval ops (put f x e) o=gval ops f o:=by
 unfold gval
 cases hgd:o.guard with
 | none=>rfl
 | some p =>
  obtain ⟨j,want⟩:=p
  simp only
  cases hd:(ops[j]?).bind (·.dst) with
  | none=>rfl
  | some t =>
   simp only
   rw [put_same (fun hx=>h t hx (by simp only [Oper.looksAt,hgd,hd,List.mem_append];exact .inr (by simp)))]
theorem YdS_put {o:Oper} {d e:D} {f:Fm} {x:Option Tmp} (h:∀ t,x=some t→t ∉ o.looksAt ops):YdS P ops Zs o d (put f x e)↔YdS P ops Zs o d f:=by
 have hev:=looks_ev (ops:=ops) (o:=o) (e:=e) (f:=f) h
 unfold YdS
 rw [looks_gval h]
 exact ⟨fun h=>h.imp (fun h=>⟨h.1,fun S hS=>dquietR_congr hev (h.2 S hS)⟩) id,fun h=>h.imp (fun h=>⟨h.1,fun S hS=>dquietR_congr (fun y hy=>(hev y hy).symm) (h.2 S hS)⟩) id⟩
theorem sOp_put {j:Nat} {oi oj:Oper} {v:D} (hj:ops[j]? = some oj) (hap:oi.apart ops oj=true) {K:Fm→St→Prop} {f:Fm} {S:St} (hy:YdS P ops Zs oi v f) (h:sOp P ops Zs j K (put f oi.dst v) S) :
  sOp P ops Zs j (fun f' S'=>YdS P ops Zs oi v f'∧K (put f' oi.dst v) S') f S:=by
 obtain ⟨h1,h2,h3⟩:=Oper.apart_spec hap
 unfold sOp at *
 simp only [hj] at *
 rcases h with ⟨d,hd,hk⟩ | ⟨hg,hk⟩
 ·refine .inl ⟨d,(YdS_put h1).1 hd,(YdS_put h3).2 hy,?_⟩
  rw [← put_comm f v d h2]
  exact hk
 ·refine .inr ⟨by rw [looks_gval h1] at hg;exact hg,?_⟩
  refine dopW_mono (fun d S' hq=>⟨hq.1,(YdS_put h3).2 hy,?_⟩) (dopW_congr (looks_ev h1) hk)
  rw [← put_comm f v d h2]
  exact hq.2
theorem sAny_first {Q:Fm→St→Prop} {i:Nat} {oi:Oper} {v:D} (hi:ops[i]? = some oi) :
  ∀ (fuel:Nat) (L:Array Bool) (f:Fm) (S:St),
   (∀ j oj,ops[j]? = some oj→j ≠ i→L.getD j true=false→(∀ e∈oj.after,Region.binds md e=true→e.on ≠ i)→oi.apart ops oj=true) →
   i∈Region.ready md ops L→YdS P ops Zs oi v f→sAny P md ops Zs Q fuel (L.setIfInBounds i true) (put f oi.dst v) S→sAny P md ops Zs Q (fuel+1) L f S:=by
 have here:∀ {K:Fm→St→Prop} {f:Fm} {S:St},YdS P ops Zs oi v f→K (put f oi.dst v) S→sOp P ops Zs i K f S:=fun hy hk=>by
  unfold sOp;simp only [hi];exact .inl ⟨v,hy,hk⟩
 intro fuel
 induction fuel with
 | zero =>
  intro L f S _ hr hy H
  refine ⟨fun h=>(by rw [h] at hr;cases hr),fun j hj=>?_⟩
  by_cases hji:j=i
  ·subst hji;exact here hy H
  ·have:=ready_mono hj hji
   rw [H.1] at this
   cases this
 | succ fuel ih =>
  intro L f S hfree hr hy H
  refine ⟨fun h=>(by rw [h] at hr;cases hr),fun j hj=>?_⟩
  by_cases hji:j=i
  ·subst hji;exact here hy H
  ·have h1:=H.2 j (ready_mono hj hji)
   obtain ⟨hjun,oj,hoj,hall⟩:=mem_ready.1 hj
   have hnot:∀ e∈oj.after,Region.binds md e=true→e.on ≠ i:=fun e he hb heq=>by
    have h1:=hall e he hb
    have h0:=(mem_ready.1 hr).1
    rw [heq] at h1
    rcases Nat.lt_or_ge i L.size with h' | h'
    ·simp [h'] at h0 h1;rw [h0] at h1;cases h1
    ·simp [Array.getElem?_eq_none h'] at h1
   have h2:=sOp_put hoj (hfree j oj hoj hji hjun hnot) hy h1
   have hfree':∀ k ok,ops[k]? = some ok→k ≠ i→(L.setIfInBounds j true).getD k true=false →
     (∀ e∈ok.after,Region.binds md e=true→e.on ≠ i)→oi.apart ops ok=true:=fun k ok hk hki hun hno=>by
    refine hfree k ok hk hki ?_ hno
    by_cases hjk:j=k
    ·subst hjk;exact hjun
    ·rw [getD_set_ne true hjk] at hun;exact hun
   refine sOp_mono (fun a' S' h3=>ih (L.setIfInBounds j true) a' S' hfree' (ready_mono hr (Ne.symm hji)) h3.1 ?_) h2
   rw [Array.setIfInBounds_comm _ _ hji]
   exact h3.2
theorem s_take {Q:Fm→St→Prop} (i:Nat) {l:List Oper} {dst:Option Tmp} {op:Op} {ty:TypeId} {pos:String} {aft:Array Edge} {fuel:Nat} {L:Array Bool} {f:Fm} {S:St} (hi:nth l i=some ⟨dst,op,ty,pos,aft,none⟩) (hr:(Region.ready md (List.toArray l) L).contains i=true) (hf:Region.free md (List.toArray l) L i=true) {v:D}
  (hq:∀ S,Zs S→dquietR P f S ty op v) (h:sAny P md (List.toArray l) Zs Q fuel (L.setIfInBounds i true) (put f dst v) S):sAny P md (List.toArray l) Zs Q (fuel+1) L f S :=
 have hi:(List.toArray l)[i]? = some ⟨dst,op,ty,pos,aft,none⟩:=by rw [← hi,nth_eq];simp
 have hg:gval (List.toArray l) f ⟨dst,op,ty,pos,aft,none⟩=some true:=rfl
 sAny_first hi fuel L f S (Region.free_spec hi hf) (by simpa using hr) (.inl ⟨hg,hq⟩) h
theorem s_split {Q:Fm→St→Prop} {fuel:Nat} {L:Array Bool} {f:Fm} {S:St} (rs:List Nat) (hr:Region.ready md ops L=rs) (hne:rs ≠ []) (h:∀ i∈rs,sOp P ops Zs i (sAny P md ops Zs Q fuel (L.setIfInBounds i true)) f S):sAny P md ops Zs Q (fuel+1) L f S :=
 ⟨fun e=>absurd (hr ▸ e) hne,fun i hi=>h i (hr ▸ hi)⟩
theorem s_op {i:Nat} {l:List Oper} {dst:Option Tmp} {op:Op} {ty:TypeId} {pos:String} {aft:Array Edge} (hi:nth l i=some ⟨dst,op,ty,pos,aft,none⟩) {K:Fm→St→Prop} {f:Fm} {S:St} (h:dop P f S ty op fun d S'=>Zs S'∧K (put f dst d) S'):sOp P (List.toArray l) Zs i K f S:=by
 have hi:(List.toArray l)[i]? = some ⟨dst,op,ty,pos,aft,none⟩:=by rw [← hi,nth_eq];simp
 unfold sOp;simp only [hi];exact .inr ⟨rfl,.inl h⟩
theorem s_done {Q:Fm→St→Prop} {fuel:Nat} {L:Array Bool} {f:Fm} {S:St} (hr:Region.ready md ops L=[]) (h:Q f S):sAny P md ops Zs Q fuel L f S:=by
 cases fuel with
 | zero=>exact ⟨hr,h⟩
 | succ n=>exact ⟨fun _=>h,fun i hi=>by rw [hr] at hi;cases hi⟩
theorem sAny_sound {Q:Fm→St→Prop} {Q':Exit→Act→World→Prop} {n:Nat} (hok:∀ (j:Nat) (o:Oper),ops[j]? = some o→operOk n ops o=true):∀ (fuel:Nat) (L:Array Bool) {S:St} {η:Names} {w:World} {f:Fm} {a:Act},Zs S→Mem P base S η w→RepF P w η (Fix P S η) f a→a.tmps.size=n→sAny P md ops Zs Q fuel L f S →
  (∀ f' S' η' w' a',Q f' S'→Goes P base S η w S' η' w'→RepF P w' η' (Fix P S' η') f' a'→a'.tmps.size=n→a'.defers=a.defers→Q' .normal a' w')→wpAny P md ops Q' fuel L a w
 | 0,_,S,η,w,f,a,_,hM,hf,hn,h,hq=>⟨h.1,hq f S η w a h.2 (Goes.refl hM) hf hn rfl⟩
 | fuel+1,L,S,η,w,f,a,hS,hM,hf,hn,h,hq=>by
  refine ⟨fun h0=>hq f S η w a (h.1 h0) (Goes.refl hM) hf hn rfl,fun i hi=>?_⟩
  have h2:=h.2 i hi
  have goOn:∀ {dst:Option Tmp} {d:D} {v:Value} {S1:St} {η1:Names} {w1:World},Zs S1→sAny P md ops Zs Q fuel (L.setIfInBounds i true) (put f dst d) S1→Goes P base S η w S1 η1 w1→Rep P w1 η1 (Fix P S1 η1) d v→wpAny P md ops Q' fuel (L.setIfInBounds i true) (a.put dst v) w1:=fun {dst d v S1 η1 w1} k0 k1 k2 k3 =>
   sAny_sound hok fuel _ k0 k2.mem ((k2.repF hf).put k3 dst) (by rw [size_put];exact hn) k1 (fun f' S' η' w' a' g1 g2 g3 g4 g5=>hq f' S' η' w' a' g1 (k2.trans g2) g3 g4 (by rw [g5,defers_put]))
  unfold sOp at h2
  unfold wpOp
  cases ho:ops[i]? with
  | none =>
   rw [ho] at h2
   exact sAny_sound hok fuel _ hS hM hf hn h2 hq
  | some o =>
   rw [ho] at h2
   simp only at h2 ⊢
   have hoo:=hok i o ho
   rw [← hn] at hoo
   have hop:opsOk a.tmps.size o.op=true:=by simp only [operOk,Bool.and_eq_true] at hoo;exact hoo.1
   rcases h2 with ⟨d,hy,hK⟩ | ⟨hg,hK⟩
   ·rcases hy with ⟨hg,hr⟩ | ⟨hg,rfl⟩
    ·rw [if_pos (gval_spec hf hoo hg)]
     refine .inl ?_
     refine Oper.wp_mono (fun a' w' ⟨d',v,S',η',k1,k2,k3,k4⟩=>?_) (dquiet_sound (Q:=Q') hM hf hop (hr S hS))
     obtain ⟨rfl,rfl⟩:=k1
     subst k4
     exact goOn hS hK k2 k3
    ·rw [if_neg (by rw [gval_spec hf hoo hg];simp)]
     exact goOn hS hK (Goes.refl hM) (by simp only [Rep,RepL];exact ⟨[],rfl,rfl⟩)
   ·rw [if_pos (gval_spec hf hoo hg)]
    refine .inl ?_
    refine Oper.wp_mono (fun a' w' ⟨d',v,S',η',k1,k2,k3,k4⟩=>?_) (dopW_sound (Q:=Q') hM hf hop hK)
    subst k4
    exact goOn k1.1 k1.2 k2 k3
end

def drawOk (l:List Oper) (n:Nat):Bool:=Region.lexB .any (l.take n).toArray && (n == l.length || heldTailB l n)
def ddraw (P:Program) (l:List Oper) (Q:Fm→St→Prop) (f:Fm) (S:St):Prop :=
 (∃ n,drawOk l n=true∧dhead P (l.take n).toArray S (fun f' S'=>dops P l.toArray Q (l.drop n) f' S') (l.take n) f none) ∨
 ∃ (Zs:St→Prop) (n:Nat),Zs S∧(n == l.length || heldTailB l n)=true∧sAny P .any (l.take n).toArray Zs (fun f' S'=>dops P l.toArray Q (l.drop n) f' S') (l.take n).toArray.size (Array.replicate (l.take n).toArray.size false) f S

inductive DX where
 | normal
 | exit (i:Nat)
 | ret
def DX.up:DX→Exit
 | .normal=>.normal
 | .exit i=>.exit i
 | .ret=>.ret
abbrev DQ:=DX→Fm→St→Prop
def DQ.then (k:Fm→St→Prop) (Q:DQ):DQ
 | .normal,f,S=>k f S
 | .exit i,f,S=>Q (.exit i) f S
 | .ret,f,S=>Q .ret f S
def DQ.block (id:Nat) (Q:DQ):DQ
 | .normal,f,S=>Q .normal f S
 | .exit i,f,S=>bif Nat.beq i id then Q .normal f S else Q (.exit i) f S
 | .ret,f,S=>Q .ret f S
structure St.Sub (S S':St):Prop where
 next:S.next≤S'.next
 ob:∀ k o,S.ob k=some o→S'.ob k=some o
def DLoop (body:DQ→Fm→St→Prop) (Q:DQ) (f:Fm) (S:St):Prop:=∃ (I:Fm→St→Prop) (μ:Fm→St→Nat),I f S∧∀ g T,I g T →
 body (DQ.then (fun f' S'=>∃ S'':St,(S''.next=S'.next∧∀ k o,S''.ob k=some o→S'.ob k=some o)∧I f' S''∧μ f' S''<μ g T) Q) g T
def dwp (P:Program):Code→DQ→Fm→St→Prop
 | .skip,Q,f,S=>Q .normal f S
 | .label _,Q,f,S=>Q .normal f S
 | .region _ ops false,Q,f,S=>dops P ops (Q .normal) ops.toList f S
 | .region _ ops true,Q,f,S=>ddraw P ops.toList (Q .normal) f S
 | .seq x y,Q,f,S=>dwp P x (DQ.then (fun f S=>dwp P y Q f S) Q) f S
 | .cond c x y,Q,f,S=>match ev f c with
  | .v (.bool b)=>(b=true→dwp P x Q f S)∧(b=false→dwp P y Q f S)
  | _=>False
 | .block id c,Q,f,S=>dwp P c (DQ.block id Q) f S
 | .loop c,Q,f,S=>DLoop (fun Q f S=>dwp P c Q f S) Q f S
 | .exit id,Q,f,S=>Q (.exit id) f S
 | .ret,Q,f,S=>Q .ret f S
 | _,_,_,_=>False
def codeOk (n:Nat):Code→Bool
 | .region _ ops _=>ops.all fun o=>operOk n ops o
 | .seq x y=>codeOk n x && codeOk n y
 | .cond c x y=>opnOk n c && codeOk n x && codeOk n y
 | .block _ c=>codeOk n c
 | .loop c=>codeOk n c
 | _=>true

section
variable {P : Program} {base : Nat} {S : St} {η : Names} {w : World} {f : Fm} {a : Act}
theorem goes_sub (h:Mem P base S η w) {S':St} (hn:S'.next=S.next) (hs:∀ k o,S'.ob k=some o→S.ob k=some o):Goes P base S η w S' η w:=by
 have subS:∀ k,(S'.ob k).isSome=true→(S.ob k).isSome=true:=fun k hk=>by
  obtain ⟨o,ho⟩:=Option.isSome_iff_exists.1 hk
  rw [hs k o ho];rfl
 have K:Keep (fun _=>True) w η (Fix P S η) w η (Fix P S' η):=⟨Nat.le_refl _,fun b i _ hx=>⟨fun k o hk hk'=>hx k o hk (hs k o hk'),rfl⟩,fun _ _ _ hx=>hx,fun _ c _ hx=>⟨c,hx,rfl⟩⟩
 refine ⟨⟨h.base_,fun k hk=>h.dead k (by omega),fun k hk=>?_,fun k t cs hk=>h.live k t cs (hs _ _ hk),fun k k' b h1 h2 h3 h4=>h.inj k k' b h1 h2 (subS k h3) (subS k' h4),h.in_,fun k t cs b h1 h2=>?_,fun k e n b h1 h2=>h.row k e n b (hs _ _ h1) h2,h.glob,fun k b l hk=>h.mp k b l (hs _ _ hk)⟩,K,Below.refl _ _,fun _=>Nat.le_refl _,Loops.refl _⟩
 ·cases ho:S'.ob k with
  | none=>rfl
  | some o=>have:=hs k o ho;rw [h.fresh k (by omega)] at this;cases this
 ·obtain ⟨vs,k1,k2,k3⟩:=h.box k t cs b (hs _ _ h1) h2
  exact ⟨vs,k1,RepL.keep K (allL_true _) k2,k3⟩
theorem operOk_take {n m:Nat} {l:List Oper} {o:Oper} (h:operOk n l.toArray o=true):operOk n (l.take m).toArray o=true:=by
 simp only [operOk,Bool.and_eq_true] at *
 refine ⟨h.1,?_⟩
 have h2:=h.2
 cases hg:o.guard with
 | none=>rfl
 | some p =>
  obtain ⟨j,want⟩:=p
  rw [hg] at h2
  simp only at h2 ⊢
  by_cases hj:j<m
  ·rw [take_get hj];exact h2
  ·rw [Array.getElem?_eq_none (by simp;omega)];rfl
theorem ddraw_sound (hm:P.follows .mixedOrders=true) {id:Nat} {l:List Oper} {Q:Fm→St→Prop} {Q':Exit→Act→World→Prop} (hok:∀ o∈l,operOk a.tmps.size l.toArray o=true) (hM:Mem P base S η w) (hf:RepF P w η (Fix P S η) f a) (h:ddraw P l Q f S)
  (hq:∀ f' S' η' w' a',Q f' S'→Goes P base S η w S' η' w'→RepF P w' η' (Fix P S' η') f' a'→a'.tmps.size=a.tmps.size→a'.defers=a.defers→Q' .normal a' w'):(Code.region id l.toArray true).wp P Q' a w:=by
 have hokn:∀ n,∀ (j:Nat) (o:Oper),(l.take n).toArray[j]? = some o→operOk a.tmps.size (l.take n).toArray o=true:=fun n j o ho=>operOk_take (hok o (by
  have:=List.mem_of_getElem? (show (l.take n)[j]? = some o by simpa using ho)
  exact List.mem_of_mem_take this))
 have G0:=goes_drew hM
 rcases h with ⟨n,hn,hh⟩ | ⟨Zs,n,hZ,hn,hh⟩
 rotate_left
 ·simp only [Bool.or_eq_true,beq_iff_eq] at hn
  rcases hn with hn | hn
  ·have hl:l.take n=l:=by rw [hn,List.take_length]
   have hd:l.drop n=[]:=by rw [hn,List.drop_length]
   have hokl:=hokn n
   rw [hl] at hh hokl
   refine wp_region_any hm (sAny_sound (w:=w.drew) hokl l.toArray.size _ hZ G0.mem (G0.repF hf) rfl hh fun f' S' η' w' a' g1 g2 g3 g4 g5=>?_)
   rw [hd] at g1
   exact hq f' S' η' w' a' g1 (G0.trans g2) g3 g4 g5
  ·refine wp_region_any_tail n hm hn ?_
   have:=sAny_sound (Q':=Exit.then (fun a w=>wpList P l.toArray Q' (l.drop n) a w) Q') (hokn n) (l.take n).toArray.size (Array.replicate (l.take n).toArray.size false) hZ G0.mem (G0.repF hf) rfl hh fun f' S1 η' w' a' g1 g2 g3 g4 g5=>by
    refine dops_sound (l.drop n) (fun o ho=>by rw [g4];exact hok o (List.mem_of_mem_drop ho)) g2.mem g3 g1 fun f'' S'' η'' w'' a'' k1 k2 k3 k4 k5=>?_
    exact hq f'' S'' η'' w'' a'' k1 ((G0.trans g2).trans k2) k3 (by rw [k4,g4]) (by rw [k5,g5])
   exact this
 simp only [drawOk,Bool.and_eq_true,Bool.or_eq_true,beq_iff_eq] at hn
 obtain ⟨hlex,hn⟩:=hn
 simp only [Region.lexB,Bool.and_eq_true] at hlex
 have hany:=hAny_lex (l.take n) 0 (Array.replicate (l.take n).toArray.size false) f none (by simp) (by simpa using hlex.2) hh
 have hok':=hokn n
 rcases hn with hn | hn
 ·subst hn
  rw [List.take_length] at hany hok'
  refine wp_region_any hm (wpAny_of_head (u:=none) (w:=w.drew) hM.fresh hok' l.toArray.size _ G0.mem (G0.repF hf) rfl (by simpa using hany) fun f' u' η' w' a' g1 g2 g3 g4 g5=>?_)
  have g1':Q f' (after S u'):=by simpa [dops,dops2] using g1
  exact hq f' (after S u') η' w' a' g1' (G0.trans g2) g3 g4 g5
 ·refine wp_region_any_tail n hm hn ?_
  have:=wpAny_of_head (u:=none) (Q':=Exit.then (fun a w=>wpList P l.toArray Q' (l.drop n) a w) Q') hM.fresh hok' (l.take n).toArray.size (Array.replicate (l.take n).toArray.size false) G0.mem (G0.repF hf) rfl (by simpa using hany) fun f' u' η' w' a' g1 g2 g3 g4 g5=>by
   refine dops_sound (l.drop n) (fun o ho=>by rw [g4];exact hok o (List.mem_of_mem_drop ho)) g2.mem g3 g1 fun f'' S'' η'' w'' a'' k1 k2 k3 k4 k5=>?_
   exact hq f'' S'' η'' w'' a'' k1 ((G0.trans g2).trans k2) k3 (by rw [k4,g4]) (by rw [k5,g5])
  exact this
theorem dwp_sound (hm:P.follows .mixedOrders=true):∀ (c:Code) {Q:DQ} {S:St} {η:Names} {w:World} {f:Fm} {a:Act} {Q':Exit→Act→World→Prop},codeOk a.tmps.size c=true→Mem P base S η w→RepF P w η (Fix P S η) f a→dwp P c Q f S →
  (∀ e f' S' η' w' a',Q e f' S'→Goes P base S η w S' η' w'→RepF P w' η' (Fix P S' η') f' a'→a'.tmps.size=a.tmps.size→a'.defers=a.defers→Q' e.up a' w')→c.wp P Q' a w:=by
 intro c
 induction c with
 | skip=>intro Q S η w f a Q' _ hM hf h hq;exact wp_skip (hq .normal f S η w a h (Goes.refl hM) hf rfl rfl)
 | label l=>intro Q S η w f a Q' _ hM hf h hq;exact wp_label (hq .normal f S η w a h (Goes.refl hM) hf rfl rfl)
 | exit id=>intro Q S η w f a Q' _ hM hf h hq;exact wp_exit (hq (.exit id) f S η w a h (Goes.refl hM) hf rfl rfl)
 | ret=>intro Q S η w f a Q' _ hM hf h hq;exact wp_ret (hq .ret f S η w a h (Goes.refl hM) hf rfl rfl)
 | region id ops draw =>
  intro Q S η w f a Q' hok hM hf h hq
  have hok':∀ o∈ops.toList,operOk a.tmps.size ops o=true:=fun o ho=>Array.all_eq_true_iff_forall_mem.1 hok o (by simpa using ho)
  cases draw with
  | false=>exact wp_region_list (dops_sound ops.toList hok' hM hf h fun f' S' η' w' a' k1 k2 k3 k4 k5=>hq .normal f' S' η' w' a' k1 k2 k3 k4 k5)
  | true=>exact ddraw_sound (l:=ops.toList) hm hok' hM hf h fun f' S' η' w' a' k1 k2 k3 k4 k5=>hq .normal f' S' η' w' a' k1 k2 k3 k4 k5
 | seq x y ihx ihy =>
  intro Q S η w f a Q' hok hM hf h hq
  simp only [codeOk,Bool.and_eq_true] at hok
  refine wp_seq (ihx hok.1 hM hf h fun e f' S' η' w' a' k1 k2 k3 k4 k5=>?_)
  cases e with
  | normal =>
   exact ihy (by rw [k4];exact hok.2) k2.mem k3 k1 fun e f'' S'' η'' w'' a'' g1 g2 g3 g4 g5=>hq e f'' S'' η'' w'' a'' g1 (k2.trans g2) g3 (by rw [g4,k4]) (by rw [g5,k5])
  | exit i=>exact hq (.exit i) f' S' η' w' a' k1 k2 k3 k4 k5
  | ret=>exact hq .ret f' S' η' w' a' k1 k2 k3 k4 k5
 | cond g x y ihx ihy =>
  intro Q S η w f a Q' hok hM hf h hq
  simp only [codeOk,Bool.and_eq_true] at hok
  have hg:=hf.ev hok.1.1
  unfold dwp at h
  split at h
  ·rename_i b hb
   rw [hb] at hg
   simp only [Rep] at hg
   refine wp_cond (t:=b) hg ?_
   cases b with
   | true=>exact ihx hok.1.2 hM hf (h.1 rfl) hq
   | false=>exact ihy hok.2 hM hf (h.2 rfl) hq
  ·exact h.elim
 | block id c ih =>
  intro Q S η w f a Q' hok hM hf h hq
  refine wp_block (ih hok hM hf h fun e f' S' η' w' a' k1 k2 k3 k4 k5=>?_)
  cases e with
  | normal=>exact hq .normal f' S' η' w' a' k1 k2 k3 k4 k5
  | ret=>exact hq .ret f' S' η' w' a' k1 k2 k3 k4 k5
  | exit i =>
   simp only [DQ.block] at k1
   simp only [DX.up,Exit.inBlock]
   cases hb:Nat.beq i id with
   | true =>
    rw [if_pos (Nat.eq_of_beq_eq_true hb)]
    rw [hb] at k1
    exact hq .normal f' S' η' w' a' k1 k2 k3 k4 k5
   | false =>
    rw [if_neg (by intro e;rw [e,Nat.beq_refl] at hb;cases hb)]
    rw [hb] at k1
    exact hq (.exit i) f' S' η' w' a' k1 k2 k3 k4 k5
 | loop c ih =>
  intro Q S η w f a Q' hok hM hf h hq
  unfold dwp at h
  obtain ⟨I,μ,h0,hround⟩:=h
  intro b k cs
  have key:∀ n (g:Fm) (T:St) (η1:Names) (w1:World) (a1:Act),μ g T=n→I g T→Goes P base S η w T η1 w1→RepF P w1 η1 (Fix P T η1) g a1→a1.tmps.size=a.tmps.size→a1.defers=a.defers →
    ∃ e a' w',Q' e a' w'∧Arrives P (lone (b.at a1 (.code c::.inLoop c::k)) cs w1) b k cs e a' w':=by
   intro n
   induction n using Nat.strongRecOn with
   | _ n ihn =>
    intro g T η1 w1 a1 hn hI hG hF hs hd
    have hr:=hround g T hI
    have:=ih (Q':=fun e a' w'=>(e=.normal∧∃ g' T' η',I g' T'∧μ g' T'<μ g T∧Goes P base S η w T' η' w'∧RepF P w' η' (Fix P T' η') g' a'∧a'.tmps.size=a.tmps.size∧a'.defers=a.defers)∨(e ≠ .normal∧Q' e a' w')) (by rw [hs];exact hok) hG.mem hF hr (fun e f' S' η' w' a' k1 k2 k3 k4 k5=>by
     cases e with
     | normal =>
      obtain ⟨S'',⟨s1,s2⟩,s3,s4⟩:=k1
      have G2:=goes_sub k2.mem s1 s2
      exact .inl ⟨rfl,f',S'',η',s3,s4,(hG.trans k2).trans G2,G2.repF k3,by rw [k4,hs],by rw [k5,hd]⟩
     | exit i=>exact .inr ⟨by simp [DX.up],hq (.exit i) f' S' η' w' a' k1 (hG.trans k2) k3 (by rw [k4,hs]) (by rw [k5,hd])⟩
     | ret=>exact .inr ⟨by simp [DX.up],hq .ret f' S' η' w' a' k1 (hG.trans k2) k3 (by rw [k4,hs]) (by rw [k5,hd])⟩)
    obtain ⟨e,a₁,w₁,hq',harr⟩:=this b (.inLoop c::k) cs
    rcases hq' with ⟨rfl,g',T',η',j1,j2,j3,j4,j5,j6⟩ | ⟨hne,hq'⟩
    ·obtain ⟨e₂,a₂,w₂,hq₂,harr₂⟩:=ihn (μ g' T') (hn ▸ j2) g' T' η' w₁ a₁ rfl j1 j3 j4 j5 j6
     exact ⟨e₂,a₂,w₂,hq₂,.of_steps (Steps.trans harr (.one step_inLoop)) harr₂⟩
    ·cases e with
     | normal=>exact absurd rfl hne
     | exit id=>exact ⟨_,a₁,w₁,hq',.pass (x:=.inLoop c) rfl (fun _ _=>.inl (by simp)) harr⟩
     | goto l=>exact ⟨_,a₁,w₁,hq',.pass (x:=.inLoop c) rfl (fun _ _=>.inl (by simp)) harr⟩
     | ret=>exact ⟨_,a₁,w₁,hq',.pass (x:=.inLoop c) rfl (fun _ _=>.inl (by simp)) harr⟩
     | panic ch=>exact ⟨_,a₁,w₁,hq',.pass (x:=.inLoop c) rfl (fun _ _=>.inl (by simp)) harr⟩
     | outgrown=>exact ⟨_,a₁,w₁,hq',.pass (x:=.inLoop c) rfl (fun _ _=>.inl (by simp)) harr⟩
  obtain ⟨e,a',w',hq',harr⟩:=key _ f S η w a rfl h0 (Goes.refl hM) hf rfl rfl
  exact ⟨e,a',w',hq',.of_steps (.one step_loop) harr⟩
 | rangeFunc x ps aa b _ _=>intro Q S η w f a Q' _ _ _ h;exact h.elim
 | scope c _=>intro Q S η w f a Q' _ _ _ h;exact h.elim
 | goto l=>intro Q S η w f a Q' _ _ _ h;exact h.elim
 | refuse s=>intro Q S η w f a Q' _ _ _ h;exact h.elim
end

/-! ### Functions -/
def argF (args:List D):Fm:=fun t=>args.getD t undefD
def dres (P:Program) (f:Fm) (S:St):ResultVar→Option (Prop × D)
 | .tmp t=>some (True,f t)
 | .cell x t=>match f x with
  | .loc k off=>match S.ob k with
   | some (.box _ cs)=>some (rdOk P t cs off,rdVal P t cs off)
   | _=>none
  | _=>none
def dresL (P:Program) (f:Fm) (S:St):List ResultVar→(List D→Prop)→Prop
 | [],K=>K []
 | r::l,K=>onVal (dres P f S r) fun d=>dresL P f S l fun ds=>K (d::ds)
def one (ds:List D):D:=match ds with
 | [d]=>d
 | ds=>.tup ds
def resOk (n:Nat):ResultVar→Bool
 | .tmp t=>Nat.blt t n
 | .cell t _=>Nat.blt t n
def DLe (d d':D):Prop:=∀ (P:Program) (w:World) (η:Names) (X:Nat→Nat→Prop) (v:Value),Rep P w η X d v→Rep P w η X d' v
def DFin (S S':St) (d:D) (K:D→St→Prop):Prop:=∃ d' S'',DLe d d'∧d'.all (·<S''.next)∧S''.next≤S'.next∧S.next≤S''.next ∧
 (∀ k o,S''.ob k=some o→S'.ob k=some o∧k<S''.next∧∀ t cs,o=.box t cs→S.ob k=some o∨allL (·<S''.next) cs)∧K d' S''
def Thaw (P:Program) (S:St) (d:D) (S1:St) (d1:D):Prop:=∀ base η w v,Mem P base S η w→Rep P w η (Fix P S η) d v→∃ η',Goes P base S η w S1 η' w∧Rep P w η' (Fix P S1 η') d1 v
theorem Thaw.refl (P:Program) (S:St) (d:D):Thaw P S d S d:=fun _ η _ _ hM hr=>⟨η,Goes.refl hM,hr⟩
theorem Thaw.trans {P:Program} {S S1 S2:St} {d d1 d2:D} (h:Thaw P S d S1 d1) (k:Thaw P S1 d1 S2 d2):Thaw P S d S2 d2:=fun base η w v hM hr =>
 let ⟨η1,h1,h1'⟩:=h base η w v hM hr
 let ⟨η2,h2,h2'⟩:=k base η1 w v h1.mem h1'
 ⟨η2,h1.trans h2,h2'⟩
def DFinT (P:Program) (S S':St) (d:D) (K:D→St→Prop):Prop:=∃ S1 d1,Thaw P S' d S1 d1∧DFin S S1 d1 K
theorem DFin.t {P:Program} {S S':St} {d:D} {K:D→St→Prop} (h:DFin S S' d K):DFinT P S S' d K:=⟨S',d,Thaw.refl P S' d,h⟩
def DQ.fin (P:Program) (rs:List ResultVar) (S:St) (K:D→St→Prop):DQ
 | .exit _,_,_=>False
 | _,f,S'=>dresL P f S' rs fun ds=>DFinT P S S' (one ds) K
section
variable {P : Program} {base : Nat} {S : St} {η : Names} {w : World} {f : Fm} {a : Act}
def rv (tmps:Array Value):ResultVar→Sem Value
 | .tmp t=>pure (tmps.getD t undef)
 | .cell x t=>do loadVar t (← asAddr (tmps.getD x undef))
theorem results_rv (fn:Func) (tmps:Array Value):results fn tmps=(do let vs ← fn.results.mapM (rv tmps);pure (if h:vs.size=1 then vs[0] else .tuple vs)):=by
 unfold results
 congr 1
theorem dres_sound (hM:Mem P base S η w) (hf:RepF P w η (Fix P S η) f a) {r:ResultVar} (hr:resOk a.tmps.size r=true) {c:Prop} {d:D} (h:dres P f S r=some (c,d)) (hc:c) :
  ∃ v,(rv a.tmps r).run P w=.ok v w∧Rep P w η (Fix P S η) d v:=by
 cases r with
 | tmp t =>
  simp only [dres] at h
  injection h with h;injection h with _ hd;subst hd
  exact ⟨_,rfl,hf t (by simpa [resOk,Nat.blt_eq] using hr)⟩
 | cell x t =>
  simp only [dres] at h
  have hx:=hf x (by simpa [resOk,Nat.blt_eq] using hr)
  split at h
  ·rename_i k off hk
   rw [hk] at hx
   split at h
   ·rename_i t' cs hb
    have hl:dval P (fun _=>.loc k off) S 0 (.load t (.tmp 0))=some (rdOk P t cs off,rdVal P t cs off):=by simp only [dval,ev,hb]
    rw [h] at hl
    have hF:RepF P w η (Fix P S η) (fun _=>.loc k off) { tmps:=#[a.tmps.getD x undef],defers:=[] }:=fun i hi=>by
     have:i=0:=by simpa using hi
     subst this
     exact hx
    obtain ⟨v,h1,h2⟩:=dval_sound (o:=⟨none,.load t (.tmp 0),0, "",#[],none⟩) hM hF (by simp [opsOk,Op.operands,opnOk]) hl hc
    simp only [Rep] at hx
    obtain ⟨b,_,e2⟩:=hx
    refine ⟨v,?_,h2⟩
    have e:(execOp (Act.eval { tmps:=#[a.tmps.getD x undef],defers:=[] }) ⟨none,.load t (.tmp 0),0, "",#[],none⟩).run P w=((loadVar t ⟨b,off,none⟩).run P w).andThen fun v w=>.ok (.value v) w:=by
     unfold execOp
     simp only [Act.eval,Sem.run_bind,Instr.loadAt]
     rw [show (#[a.tmps.getD x undef]:Array Value).getD 0 undef=a.tmps.getD x undef from rfl,e2]
     rfl
    rw [e] at h1
    simp only [rv,e2,asAddr,Sem.run_bind,Sem.run_pure,Result.andThen_ok]
    cases hv:(loadVar t ⟨b,off,none⟩).run P w with
    | ok u w2 =>
     rw [hv] at h1
     simp only [Result.andThen_ok] at h1
     injection h1 with h1 h1'
     injection h1 with h1
     rw [h1,h1']
    | halt u w2 =>
     rw [hv] at h1
     cases h1
   ·cases h
  ·cases h
theorem dresL_sound (hM:Mem P base S η w) (hf:RepF P w η (Fix P S η) f a):∀ (l:List ResultVar) {K:List D→Prop},(∀ r∈l,resOk a.tmps.size r=true)→dresL P f S l K →
  ∃ ds vs,K ds∧RepL P w η (Fix P S η) ds vs∧(l.mapM (rv a.tmps)).run P w=.ok vs w
 | [],K,_,h=>⟨[],[],h,by simp [RepL],rfl⟩
 | r::l,K,hr,h=>by
  unfold dresL at h
  cases hd:dres P f S r with
  | none=>rw [hd] at h;exact h.elim
  | some p =>
   obtain ⟨c,d⟩:=p
   rw [hd] at h
   obtain ⟨v,h1,h2⟩:=dres_sound hM hf (hr r (by simp)) hd h.1
   obtain ⟨ds,vs,k1,k2,k3⟩:=dresL_sound hM hf l (fun r' hr'=>hr r' (by simp [hr'])) h.2
   refine ⟨d::ds,v::vs,k1,by simp only [RepL];exact ⟨v,vs,rfl,h2,k2⟩,?_⟩
   rw [List.mapM_cons,Sem.run_bind]
   rw [h1,Result.andThen_ok,Sem.run_bind,k3,Result.andThen_ok]
   rfl
theorem results_sound (hM:Mem P base S η w) (hf:RepF P w η (Fix P S η) f a) {fn:Func} {K:List D→Prop} (hr:fn.results.all (resOk a.tmps.size)=true) (h:dresL P f S fn.results.toList K) :
  ∃ ds v,K ds∧Rep P w η (Fix P S η) (one ds) v∧(results fn a.tmps).run P w=.ok v w:=by
 obtain ⟨ds,vs,k1,k2,k3⟩:=dresL_sound hM hf fn.results.toList (fun r hr'=>Array.all_eq_true_iff_forall_mem.1 hr r (by simpa using hr')) h
 have hm:(fn.results.mapM (rv a.tmps)).run P w=.ok vs.toArray w:=by
  rw [Array.mapM_eq_mapM_toList,map_eq_pure_bind,Sem.run_bind,k3,Result.andThen_ok]
  rfl
 have hrun:(results fn a.tmps).run P w=.ok (if h:vs.toArray.size=1 then vs.toArray[0] else .tuple vs.toArray) w:=by
  rw [results_rv,Sem.run_bind,hm,Result.andThen_ok]
  rfl
 have hl:=k2.length
 cases ds with
 | nil =>
  have:vs=[]:=List.eq_nil_of_length_eq_zero (by simpa using hl)
  subst this
  exact ⟨[],.tuple #[],k1,by simp only [one,Rep,RepL];exact ⟨[],rfl,rfl⟩,hrun⟩
 | cons d1 ds =>
  cases vs with
  | nil=>simp at hl
  | cons v1 vs =>
   cases ds with
   | nil =>
    have:vs=[]:=List.eq_nil_of_length_eq_zero (by simpa using hl)
    subst this
    simp only [RepL] at k2
    obtain ⟨x,xs,h1,h2,h3⟩:=k2
    injection h1 with h1 _
    subst h1
    exact ⟨[d1],v1,k1,h2,hrun⟩
   | cons d2 ds =>
    refine ⟨_,.tuple (v1::vs).toArray,k1,by simp only [one,Rep];exact ⟨_,rfl,k2⟩,?_⟩
    rw [hrun,dif_neg (by simp only [List.size_toArray,List.length_cons] at hl ⊢;omega)]
theorem dcalls_of_dwp (hm:P.follows .mixedOrders=true) {g:FuncId} {fn:Func} {c:Code} (hf:P.funcs[g]? = some fn) (hb:fn.body=some c) (hent:∀ vs w,(callFunc g vs).run P w=.ok (.enter g vs) w) {rs:List ResultVar} (hrs:fn.results.toList=rs) {args:List D} (hok:(codeOk fn.ntmps c && fn.results.all (resOk fn.ntmps) && Nat.ble args.length fn.ntmps)=true) {S:St} {K:D→St→Prop}
  (h:S.WF→dwp P c (DQ.fin P rs S K) (argF args) S):DCalls P g args S K:=by
 subst hrs
 intro base η w vs hM hr
 refine .inl ⟨hent _ _,?_⟩
 simp only [Bool.and_eq_true] at hok
 obtain ⟨⟨hok1,hok2⟩,hok3⟩:=hok
 have hlen:args.length≤fn.ntmps:=Nat.le_of_ble_eq_true hok3
 have hl:=hr.length
 have hsz:(vs.toArray++Array.replicate (fn.ntmps - vs.toArray.size) undef).size=fn.ntmps:=by simp;omega
 refine calls_of_wp hf hb ?_
 refine dwp_sound hm c (a:={ tmps:=vs.toArray++Array.replicate (fn.ntmps - vs.toArray.size) undef,defers:=[] }) (by rw [hsz];exact hok1) hM (fun t ht=>?_) (h hM.fresh) fun e f' S' η' w' a' k1 k2 k3 k4 k5=>?_
 ·rw [hsz] at ht
  simp only [argF]
  by_cases h1:t<vs.length
  ·obtain ⟨x,hx,hr'⟩:=hr.get t (List.getElem?_eq_getElem (by omega:t<args.length))
   have e1:args.getD t undefD=args[t]:=by rw [List.getD_eq_getElem?_getD,List.getElem?_eq_getElem (by omega:t<args.length)];rfl
   have e2:(vs.toArray++Array.replicate (fn.ntmps - vs.toArray.size) undef).getD t undef=x:=by
    rw [Array.getD_eq_getD_getElem?,Array.getElem?_append_left (by simpa using h1)]
    simp [hx]
   rw [e1,e2]
   exact hr'
  ·have e1:args.getD t undefD=undefD:=by rw [List.getD_eq_getElem?_getD,List.getElem?_eq_none (by omega)];rfl
   have e2:(vs.toArray++Array.replicate (fn.ntmps - vs.toArray.size) undef).getD t undef=undef:=by
    rw [Array.getD_eq_getD_getElem?,Array.getElem?_append_right (by simpa using h1)]
    rw [Array.getElem?_replicate]
    split <;> rfl
   rw [e1,e2]
   simp only [Rep,RepL]
   exact ⟨[],rfl,rfl⟩
 ·have hsz':a'.tmps.size=fn.ntmps:=by rw [k4];exact hsz
  have hd':a'.defers=[]:=k5
  have fin:dresL P f' S' fn.results.toList (fun ds=>DFinT P S S' (one ds) K)→a'.defers=[]∧∃ v,(results fn a'.tmps).run P w'=.ok v w'∧∃ d S'' η'' u,K d S''∧Ending.returned v=.returned u∧Rep P w' η'' (Fix P S'' η'') d u∧Goes P base S η w S'' η'' w':=fun hres=>by
   obtain ⟨ds,v,⟨S1,d1,t1,d',S'',q1,q2,q3,q4,q5,q6⟩,q7,q8⟩:=results_sound k2.mem k3 (by rw [hsz'];exact hok2) hres
   obtain ⟨η3,t2,t3⟩:=t1 _ _ _ _ k2.mem q7
   obtain ⟨g1,g2⟩:=goes_fin hM (k2.trans t2) q3 q4 q5
   exact ⟨hd',v,q8,d',S'',_,v,q6,rfl,g2 d' v q2 (q1 _ _ _ _ _ t3),g1⟩
  cases e with
  | normal=>exact fin k1
  | ret=>exact fin k1
  | exit i=>exact k1.elim
end

/-! ### Whose room it is, forgotten -/
mutual
def D.frz:D→D
 | .v x=>.v x
 | .agg cs=>.agg (frzL cs)
 | .tup cs=>.tup (frzL cs)
 | .fn f fs cs=>.fn f (frzL fs) (frzL cs)
 | .ifc t d=>.ifc t d.frz
 | .loc k o=>.loc k o
 | .rd cs o=>.rd (frzL cs) o
 | .sl _ es=>.sl .no (frzL es)
 | .win k off n c=>.win k off n c
def frzL:List D→List D
 | []=>[]
 | d::l=>d.frz::frzL l
end
theorem frzL_map:∀ l:List D,frzL l=l.map D.frz
 | []=>rfl
 | d::l=>by simp [frzL,frzL_map l]
theorem frzL_length:∀ l:List D,(frzL l).length=l.length
 | []=>rfl
 | d::l=>by simp [frzL,frzL_length l]
theorem frz_isAgg (d:D):d.frz.isAgg=d.isAgg:=by cases d <;> rfl
section
variable {P : Program} {w : World} {η : Names} {X : Nat → Nat → Prop}
mutual
theorem Rep.frz:∀ {d:D} {v:Value},Rep P w η X d v→Rep P w η X d.frz v
 | .v x,v,h=>by simp only [D.frz];exact h
 | .agg cs,v,h=>by
  simp only [D.frz,Rep] at *
  obtain ⟨vs,h1,h2,h3⟩:=h
  exact ⟨vs,h1,RepL.frz h2,h3⟩
 | .tup cs,v,h=>by
  simp only [D.frz,Rep] at *
  obtain ⟨vs,h1,h2⟩:=h
  exact ⟨vs,h1,RepL.frz h2⟩
 | .fn f fs cs,v,h=>by
  simp only [D.frz,Rep] at *
  obtain ⟨us,vs,h1,h2,h3⟩:=h
  exact ⟨us,vs,h1,RepL.frz h2,RepL.frz h3⟩
 | .ifc t d,v,h=>by
  simp only [D.frz,Rep] at *
  obtain ⟨x,h1,h2⟩:=h
  exact ⟨x,h1,Rep.frz h2⟩
 | .loc k o,v,h=>by simp only [D.frz];exact h
 | .rd cs o,v,h=>by
  simp only [D.frz,Rep] at *
  obtain ⟨b,p,h1,h2⟩:=h
  exact ⟨b,p,h1,RepC.frz h2⟩
 | .sl o es,v,h=>by
  simp only [D.frz,Rep] at *
  rw [frzL_length]
  obtain ⟨A,c,h1,h2,h3,h4,h5⟩:=h
  refine ⟨A,c,h1,h2,h3,trivial,fun h0=>?_⟩
  obtain ⟨b,p,z,e1,e2,e3⟩:=h5 h0
  exact ⟨b,p,z,e1,e2,RepE.frz z e3⟩
 | .win k off n c,v,h=>by simp only [D.frz];exact h
theorem RepL.frz:∀ {l:List D} {vs:List Value},RepL P w η X l vs→RepL P w η X (frzL l) vs
 | [],vs,h=>by simp only [frzL];exact h
 | d::l,vs,h=>by
  simp only [frzL,RepL] at *
  obtain ⟨x,xs,h1,h2,h3⟩:=h
  exact ⟨x,xs,h1,Rep.frz h2,RepL.frz h3⟩
theorem RepC.frz:∀ {l:List D} {b o:Nat},RepC P w η X l b o→RepC P w η X (frzL l) b o
 | [],b,o,h=>by simp only [frzL];exact h
 | d::l,b,o,h=>by
  simp only [frzL,RepC] at *
  obtain ⟨⟨h1,x,h2,h3,h4⟩,h5⟩:=h
  exact ⟨⟨h1,x,h2,h3,Rep.frz h4⟩,RepC.frz h5⟩
theorem RepE.frz (z:Nat):∀ {l:List D} {b o:Nat},RepE P w η X z l b o→RepE P w η X z (frzL l) b o
 | [],b,o,h=>by simp only [frzL];exact h
 | d::l,b,o,h=>by
  simp only [frzL,RepE] at *
  obtain ⟨⟨h1,h2⟩,h5⟩:=h
  refine ⟨⟨RepA.frz z h1,fun hn=>?_⟩,RepE.frz z h5⟩
  rw [frz_isAgg] at hn
  obtain ⟨e1,e2,x,e3,e4,e5⟩:=h2 hn
  exact ⟨e1,e2,x,e3,e4,Rep.frz e5⟩
theorem RepA.frz (z:Nat):∀ {d:D} {b o:Nat},RepA P w η X z d b o→RepA P w η X z d.frz b o
 | .agg cs,b,o,h=>by
  simp only [D.frz,RepA] at *
  rw [frzL_length]
  exact ⟨h.1,RepC.frz h.2⟩
 | .v _,_,_,_=>by simp only [D.frz,RepA]
 | .tup _,_,_,_=>by simp only [D.frz,RepA]
 | .fn _ _ _,_,_,_=>by simp only [D.frz,RepA]
 | .ifc _ _,_,_,_=>by simp only [D.frz,RepA]
 | .loc _ _,_,_,_=>by simp only [D.frz,RepA]
 | .rd _ _,_,_,_=>by simp only [D.frz,RepA]
 | .sl _ _,_,_,_=>by simp only [D.frz,RepA]
 | .win _ _ _ _,_,_,_=>by simp only [D.frz,RepA]
end
end
theorem DLe.refl (d:D):DLe d d:=fun _ _ _ _ _ h=>h
theorem DLe.frz (d:D):DLe d d.frz:=fun _ _ _ _ _ h=>h.frz
def D.closed (d:D):Prop:=d.all fun _=>False
theorem St.Sub.refl (S:St):S.Sub S:=⟨Nat.le_refl _,fun _ _ h=>h⟩
theorem St.Sub.add {S S':St} (h:S.Sub S') (hw:S.WF) (o:Ob):S.Sub (S'.add o):=⟨Nat.le_succ_of_le h.next,fun k o' hk=>by
 have:k ≠ S'.next:=fun e=>by
  have hlt:k<S.next:=by
   rcases Nat.lt_or_ge k S.next with h' | h'
   ·exact h'
   ·rw [hw k h'] at hk;cases hk
  have:=h.next
  omega
 simp only [St.add]
 rw [if_neg this]
 exact h.ob k o' hk⟩
theorem St.WF.lt {S:St} (hw:S.WF) {k:Nat} {o:Ob} (h:S.ob k=some o):k<S.next:=by
 rcases Nat.lt_or_ge k S.next with h' | h'
 ·exact h'
 ·rw [hw k h'] at h;cases h
theorem St.Sub.set {S S':St} (h:S.Sub S') (hw:S.WF) {k:Nat} (hk:S.next≤k) (o:Ob):S.Sub (S'.set k o):=⟨h.next,fun j o' hj=>by
 have:=hw.lt hj
 simp only [St.set]
 rw [if_neg (by omega)]
 exact h.ob j o' hj⟩
theorem St.Sub.drop {S S':St} (h:S.Sub S') (hw:S.WF) {k:Nat} (hk:S.next≤k):S.Sub (S'.drop k):=⟨h.next,fun j o' hj=>by
 have:=hw.lt hj
 simp only [St.drop]
 rw [if_neg (by omega)]
 exact h.ob j o' hj⟩
structure PFin (S S':St) (r d:D):Prop where
 eq:r.frz=d
 sub:S.Sub S'
def DQ.pfin (P:Program) (rs:List ResultVar) (S:St) (d:D):DQ
 | .exit _,_,_=>False
 | _,f,S'=>dresL P f S' rs fun ds=>PFin S S' (one ds) d
theorem dresL_mono {P:Program} {f:Fm} {S:St}:∀ {l:List ResultVar} {K K':List D→Prop},(∀ ds,K ds→K' ds)→dresL P f S l K→dresL P f S l K'
 | [],_,_,h,k=>h _ k
 | _::_,_,_,h,k=>by
  unfold dresL at *
  exact onVal_mono (fun d hd=>dresL_mono (fun ds hds=>h _ hds) hd) k
theorem pfin_fin {P:Program} {rs:List ResultVar} {S:St} {d:D} (hw:S.WF) (hc:d.closed):∀ e f S',DQ.pfin P rs S d e f S'→DQ.fin P rs S (fun d' T=>d'=d∧T=S) e f S':=by
 have key:∀ f S',dresL P f S' rs (fun ds=>PFin S S' (one ds) d)→dresL P f S' rs (fun ds=>DFinT P S S' (one ds) fun d' T=>d'=d∧T=S):=fun f S' h =>
  dresL_mono (fun ds ⟨h1,h2⟩=>DFin.t ⟨d,S,h1 ▸ DLe.frz _,D.all_mono (fun _ h=>h.elim) hc,h2.next,Nat.le_refl _,fun k o hk=>⟨h2.ob k o hk,hw.lt hk,fun _ _ _=>.inl hk⟩,rfl,rfl⟩) h
 intro e f S' h
 cases e with
 | normal=>exact key f S' h
 | ret=>exact key f S' h
 | exit i=>exact h
theorem dquiet_mono {P:Program} {f:Fm} {S:St} {ty:TypeId} {op:Op} {K K':D→Prop} (h:∀ d,K d→K' d) (hq:dquiet P f S ty op K):dquiet P f S ty op K':=by
 obtain ⟨d,h1,h2⟩:=dquiet_iff.1 hq
 exact dquiet_iff.2 ⟨d,h1,h d h2⟩
theorem hop_mono {P:Program} {f:Fm} {S:St} {u:Option Ob} {ty:TypeId} {op:Op} {K K':D→Option Ob→Prop} (h:∀ d u,K d u→K' d u) (hq:hop P f S u ty op K):hop P f S u ty op K':=by
 cases op with
 | alloc t=>exact ⟨hq.1,hq.2.1,h _ _ hq.2.2⟩
 | box t x=>exact ⟨hq.1,hq.2.1,h _ _ hq.2.2⟩
 | _=>simp only [hop] at hq ⊢;exact dquiet_mono (fun d hd=>h d u hd) hq
theorem dhead_mono {P:Program} {ops:Array Oper} {S:St} {Q Q':Fm→St→Prop} (h:∀ f S,Q f S→Q' f S):∀ (l:List Oper) {f:Fm} {u:Option Ob},dhead P ops S Q l f u→dhead P ops S Q' l f u
 | [],_,_,k=>h _ _ k
 | o::l,f,u,k=>by
  unfold dhead at *
  split at k
  ·exact hop_mono (fun d u' hd=>dhead_mono h l hd) k
  ·exact dwanted_mono (fun hq=>dquiet_mono (fun d hd=>dhead_mono h l hd) hq) (dhead_mono h l) k
theorem dwp_mono {P:Program}:∀ (c:Code) {Q Q':DQ} {f:Fm} {S:St},(∀ e f S,Q e f S→Q' e f S)→dwp P c Q f S→dwp P c Q' f S:=by
 intro c
 induction c with
 | region id ops draw =>
  intro Q Q' f S h k
  cases draw with
  | false=>exact dops_mono (h .normal) _ k
  | true =>
   rcases k with ⟨n,h1,h2⟩ | ⟨Zs,n,h1,h2,h3⟩
   ·exact .inl ⟨n,h1,dhead_mono (fun f' S' hf'=>dops_mono (h .normal) _ hf') _ h2⟩
   ·exact .inr ⟨Zs,n,h1,h2,sAny_mono (fun f' S' hf'=>dops_mono (h .normal) _ hf') _ _ h3⟩
 | seq x y ihx ihy =>
  intro Q Q' f S h k
  refine ihx (fun e f2 S2 hq=>?_) k
  cases e with
  | normal =>
   have hq':dwp P y Q f2 S2:=hq
   have h3:dwp P y Q' f2 S2:=ihy (f:=f2) (S:=S2) h hq'
   exact h3
  | exit i=>exact h _ _ _ hq
  | ret=>exact h _ _ _ hq
 | cond g x y ihx ihy =>
  intro Q Q' f S h k
  unfold dwp at k ⊢
  generalize ev f g=u at k ⊢
  cases u with
  | v u=>cases u with
   | bool b=>exact ⟨fun e=>ihx h (k.1 e),fun e=>ihy h (k.2 e)⟩
   | _=>exact k
  | _=>exact k
 | block id c ih =>
  intro Q Q' f S h k
  refine ih (fun e f S hq=>?_) k
  cases e with
  | normal=>exact h _ _ _ hq
  | ret=>exact h _ _ _ hq
  | exit i =>
   simp only [DQ.block] at *
   cases hb:Nat.beq i id with
   | true=>rw [hb] at hq;exact h _ _ _ hq
   | false=>rw [hb] at hq;exact h _ _ _ hq
 | loop c ih =>
  intro Q Q' f S h k
  obtain ⟨I,μ,h0,hr⟩:=k
  refine ⟨I,μ,h0,fun g T hI=>ih (fun e f S hq=>?_) (hr g T hI)⟩
  cases e with
  | normal=>exact hq
  | exit i=>exact h _ _ _ hq
  | ret=>exact h _ _ _ hq
 | skip=>intro Q Q' f S h k;exact h _ _ _ k
 | label l=>intro Q Q' f S h k;exact h _ _ _ k
 | exit i=>intro Q Q' f S h k;exact h _ _ _ k
 | ret=>intro Q Q' f S h k;exact h _ _ _ k
 | rangeFunc x ps aa b _ _=>intro Q Q' f S _ k;exact k.elim
 | scope c _=>intro Q Q' f S _ k;exact k.elim
 | goto l=>intro Q Q' f S _ k;exact k.elim
 | refuse s=>intro Q Q' f S _ k;exact k.elim
theorem dpure_of_dwp {P:Program} (hm:P.follows .mixedOrders=true) {g:FuncId} {fn:Func} {c:Code} (hf:P.funcs[g]? = some fn) (hb:fn.body=some c) (hent:∀ vs w,(callFunc g vs).run P w=.ok (.enter g vs) w) {rs:List ResultVar} (hrs:fn.results.toList=rs) {args:List D} (hok:(codeOk fn.ntmps c && fn.results.all (resOk fn.ntmps) && Nat.ble args.length fn.ntmps)=true) {d:D} (hc:d.closed)
  (h:∀ S:St,S.WF→dwp P c (DQ.pfin P rs S d) (argF args) S):DPure P g args d:=fun S =>
 dcalls_of_dwp hm hf hb hent hrs hok fun hw=>dwp_mono c (pfin_fin hw hc) (h S hw)

theorem put_eq (f:Fm) (t:Tmp) (d:D):put f (some t) d t=d:=by simp [put]
theorem put_ne (f:Fm) (t:Tmp) (d:D) (i:Nat) (h:(i == t)=false):put f (some t) d i=f i:=by
 have:Nat.beq i t=false:=by
  cases hb:Nat.beq i t with
  | false=>rfl
  | true=>rw [Nat.eq_of_beq_eq_true hb] at h;simp at h
 simp [put,this]
theorem put_none (f:Fm) (d:D):put f none d=f:=Eq.trans (Eq.refl _) (Eq.refl _)
theorem argF_zero (d:D) (l:List D):argF (d::l) 0=d:=Eq.trans (Eq.refl _) (Eq.refl _)
theorem argF_succ (d:D) (l:List D) (t:Nat):argF (d::l) (t+1)=argF l t:=Eq.trans (Eq.refl _) (Eq.refl _)
section
variable {P : Program} {x y : Operand} {t : TypeId}
theorem pureRun_bind {α β:Type} (s:Sem α) (g:α→Sem β):pureRun P (s >>= g)=(pureRun P s).bind fun a=>pureRun P (g a):=by
 show pureRun P (Sem.bind s g)=_
 induction s with
 | pure a=>rfl
 | program k ih=>simp only [Sem.bind,pureRun];exact ih _
 | mark m k ih=>simp only [Sem.bind,pureRun];exact ih
 | _=>rfl
theorem pureRun_pure {α:Type} (a:α):pureRun P (pure a:Sem α)=some a:=Eq.trans (Eq.refl _) (Eq.refl _)
theorem ofV_int (k:IntKind) (n:Int):ofV (.int k n)=.v (.int k n):=Eq.trans (Eq.refl _) (Eq.refl _)
theorem ofV_bool (b:Bool):ofV (.bool b)=.v (.bool b):=Eq.trans (Eq.refl _) (Eq.refl _)
theorem ofV_string (s:ByteArray):ofV (.string s)=.v (.string s):=Eq.trans (Eq.refl _) (Eq.refl _)
theorem ofV_nil:ofV (.slice none 0 0)=.sl .full []:=Eq.trans (Eq.refl _) (Eq.refl _)
theorem slOwn_some (own:Own) (h:Operand):slOwn own (some h)=.no:=Eq.trans (Eq.refl _) (Eq.refl _)
theorem slOwn_full:slOwn .full none=.full:=Eq.trans (Eq.refl _) (Eq.refl _)
theorem slOwn_no:slOwn .no none=.no:=Eq.trans (Eq.refl _) (Eq.refl _)
theorem ofV_iface:ofV .nilIface=.v .nilIface:=Eq.trans (Eq.refl _) (Eq.refl _)
theorem ofV_func:ofV .nilFunc=.v .nilFunc:=Eq.trans (Eq.refl _) (Eq.refl _)
theorem ofV_ptr (a:Option Addr):ofV (.pointer a)=.v (.pointer a):=Eq.trans (Eq.refl _) (Eq.refl _)
/-! Operations on plain values. -/
theorem bin_add (k:IntKind) (a b:Int):dbin P .add t x y (.v (.int k a)) (.v (.int k b))=some (True,.v (.int k (k.wrap (a+b)))):=by
 simp [dbin,eqGuard,binOp,Op.intArith,pureRun_bind,pureRun_pure]
theorem bin_sub (k:IntKind) (a b:Int):dbin P .sub t x y (.v (.int k a)) (.v (.int k b))=some (True,.v (.int k (k.wrap (a - b)))):=by
 simp [dbin,eqGuard,binOp,Op.intArith,pureRun_bind,pureRun_pure]
theorem bin_eql (k:IntKind) (a b:Int):dbin P .eql t x y (.v (.int k a)) (.v (.int k b))=some (True,.v (.bool (a == b))):=by
 simp [dbin,eqGuard,binOp,Op.intCmp,pureRun_bind,pureRun_pure]
theorem bin_neq (k:IntKind) (a b:Int):dbin P .neq t x y (.v (.int k a)) (.v (.int k b))=some (True,.v (.bool (a != b))):=by
 simp [dbin,eqGuard,binOp,Op.intCmp,pureRun_bind,pureRun_pure]
theorem bin_lss (k:IntKind) (a b:Int):dbin P .lss t x y (.v (.int k a)) (.v (.int k b))=some (True,.v (.bool (decide (a<b)))):=by
 simp [dbin,eqGuard,binOp,Op.intCmp,pureRun_bind,pureRun_pure]
theorem bin_leq (k:IntKind) (a b:Int):dbin P .leq t x y (.v (.int k a)) (.v (.int k b))=some (True,.v (.bool (decide (a≤b)))):=by
 simp [dbin,eqGuard,binOp,Op.intCmp,pureRun_bind,pureRun_pure]
theorem bin_gtr (k:IntKind) (a b:Int):dbin P .gtr t x y (.v (.int k a)) (.v (.int k b))=some (True,.v (.bool (decide (b<a)))):=by
 simp [dbin,eqGuard,binOp,Op.intCmp,pureRun_bind,pureRun_pure]
theorem bin_geq (k:IntKind) (a b:Int):dbin P .geq t x y (.v (.int k a)) (.v (.int k b))=some (True,.v (.bool (decide (b≤a)))):=by
 simp [dbin,eqGuard,binOp,Op.intCmp,pureRun_bind,pureRun_pure]
theorem bin_leql (k off:Nat):dbin P .eql t x y (.loc k off) (.v (.pointer none))=some (ptrT P t=true,.v (.bool false)):=Eq.trans (Eq.refl _) (Eq.refl _)
theorem bin_ieql (u:TypeId) (d:D):dbin P .eql t x y (.ifc u d) (.v .nilIface)=some (ifaceT P t=true,.v (.bool false)):=Eq.trans (Eq.refl _) (Eq.refl _)
theorem bin_ineq (u:TypeId) (d:D):dbin P .neq t x y (.ifc u d) (.v .nilIface)=some (ifaceT P t=true,.v (.bool true)):=Eq.trans (Eq.refl _) (Eq.refl _)
theorem bin_seql (a b:ByteArray):dbin P .eql t x y (.v (.string a)) (.v (.string b))=some (True,.v (.bool (a.toList == b.toList))):=by
 simp [dbin,eqGuard,binOp,Op.stringOp,pureRun_bind,pureRun_pure]
theorem bin_sneq (a b:ByteArray):dbin P .neq t x y (.v (.string a)) (.v (.string b))=some (True,.v (.bool (!(a.toList == b.toList)))):=by
 simp [dbin,eqGuard,binOp,Op.stringOp,pureRun_bind,pureRun_pure]
theorem bin_sgtr (a b:ByteArray):dbin P .gtr t x y (.v (.string a)) (.v (.string b))=some (True,.v (.bool (!(Op.bytesLess a.toList b.toList || a.toList == b.toList)))):=by
 simp [dbin,eqGuard,binOp,Op.stringOp,pureRun_bind,pureRun_pure]
theorem bin_sleq (a b:ByteArray):dbin P .leq t x y (.v (.string a)) (.v (.string b))=some (True,.v (.bool (Op.bytesLess a.toList b.toList || a.toList == b.toList))):=by
 simp [dbin,eqGuard,binOp,Op.stringOp,pureRun_bind,pureRun_pure]
theorem bu_len (own:Own) (es:List D) (t ty:TypeId) (cs:Array Bool) {e:TypeId} (h:elT P t=some e):dbuiltin P .len #[t] ty cs [.sl own es]=some (True,.v (.int .i64 es.length)):=by
 simp [dbuiltin,vals,dlen,h]
theorem bu_wlen (k off n c:Nat) (t ty:TypeId) (cs:Array Bool) {e:TypeId} (h:elT P t=some e):dbuiltin P .len #[t] ty cs [.win k off n c]=some (True,.v (.int .i64 n)):=by
 simp [dbuiltin,vals,dlen,h]
theorem bu_wcap (k off n c:Nat) (t ty:TypeId) (cs:Array Bool) {e:TypeId} (h:elT P t=some e):dbuiltin P .cap #[t] ty cs [.win k off n c]=some (True,.v (.int .i64 c)):=by
 simp [dbuiltin,vals,dlen,h]
theorem bu_slen (s:ByteArray) (t ty:TypeId) (cs:Array Bool) (h:strT P t=true):dbuiltin P .len #[t] ty cs [.v (.string s)]=some (True,.v (.int .i64 s.size)):=by
 have hu:=strT_spec h
 simp [dbuiltin,vals,builtin,Builtin.len_,pureRun_bind,pureRun_pure,underlying,program,pureRun,hu,goInt]
end

theorem globAt_eq:globAt 0=some (.ifc 153 (.agg [.v (.pointer (some ⟨1,66,none⟩))])):=rfl
attribute [go_sem] globAt_eq
/-! The walk, step by step; what follows stands behind a name till it is come to. -/
section
variable {P : Program} {Q : DQ} {f : Fm} {S : St}
def dwpF (P:Program) (c:Code) (Q:DQ) (f:Fm) (S:St):Prop:=dwp P c Q f S
def dIf (c:D) (x y:Prop):Prop:=match c with
 | .v (.bool b)=>(b=true→x)∧(b=false→y)
 | _=>False
theorem dwp_skip:dwp P .skip Q f S=Q .normal f S:=Eq.trans (Eq.refl _) (Eq.refl _)
theorem dwp_exit (i:Nat):dwp P (.exit i) Q f S=Q (.exit i) f S:=Eq.trans (Eq.refl _) (Eq.refl _)
theorem dwp_ret:dwp P .ret Q f S=Q .ret f S:=Eq.trans (Eq.refl _) (Eq.refl _)
theorem dwp_seq (x y:Code):dwp P (.seq x y) Q f S=dwp P x (DQ.then (dwp P y Q) Q) f S:=Eq.trans (Eq.refl _) (Eq.refl _)
theorem dwp_block (id:Nat) (c:Code):dwp P (.block id c) Q f S=dwp P c (DQ.block id Q) f S:=Eq.trans (Eq.refl _) (Eq.refl _)
theorem dwp_loop (c:Code):dwp P (.loop c) Q f S=DLoop (dwp P c) Q f S:=Eq.trans (Eq.refl _) (Eq.refl _)
theorem dwp_cond (c:Operand) (x y:Code):dwp P (.cond c x y) Q f S=dIf (ev f c) (dwpF P x Q f S) (dwpF P y Q f S):=by
 unfold dwp dIf dwpF
 rfl
theorem dwp_region (id:Nat) (l:List Oper):dwp P (.region id (List.toArray l) false) Q f S=dops P (List.toArray l) (Q .normal) l f S:=Eq.trans (Eq.refl _) (Eq.refl _)
theorem dwp_draw (id:Nat) (l:List Oper):dwp P (.region id (List.toArray l) true) Q f S=ddraw P l (Q .normal) f S:=Eq.trans (Eq.refl _) (Eq.refl _)
theorem then_normal (k:Fm→St→Prop):DQ.then k Q .normal f S=k f S:=Eq.trans (Eq.refl _) (Eq.refl _)
theorem then_exit (k:Fm→St→Prop) (i:Nat):DQ.then k Q (.exit i) f S=Q (.exit i) f S:=Eq.trans (Eq.refl _) (Eq.refl _)
theorem then_ret (k:Fm→St→Prop):DQ.then k Q .ret f S=Q .ret f S:=Eq.trans (Eq.refl _) (Eq.refl _)
theorem block_normal (id:Nat):DQ.block id Q .normal f S=Q .normal f S:=Eq.trans (Eq.refl _) (Eq.refl _)
theorem block_ret (id:Nat):DQ.block id Q .ret f S=Q .ret f S:=Eq.trans (Eq.refl _) (Eq.refl _)
theorem block_eq (id:Nat):DQ.block id Q (.exit id) f S=Q .normal f S:=by simp [DQ.block]
def dnext (P:Program) (ops:Array Oper) (R:Fm→St→Prop) (r:List Oper) (f:Fm) (dst:Option Tmp) (d:D) (S:St):Prop:=dops P ops R r (put f dst d) S
theorem dnext_eq (ops:Array Oper) (R:Fm→St→Prop) (r:List Oper) (dst:Option Tmp) (d:D):dnext P ops R r f dst d S=dops P ops R r (put f dst d) S:=Eq.trans (Eq.refl _) (Eq.refl _)
def dskip (P:Program) (ops:Array Oper) (R:Fm→St→Prop) (r:List Oper) (f:Fm) (dst:Option Tmp) (S:St):Prop:=dops P ops R r (put f dst undefD) S
def dopF (P:Program) (f:Fm) (S:St) (ty:TypeId) (op:Op) (K:D→St→Prop):Prop:=dop P f S ty op K
def gtmp:List Oper→Nat→Option Tmp
 | [],_=>none
 | o::_,0=>o.dst
 | _::l,n+1=>gtmp l n
theorem gtmp_eq:∀ (l:List Oper) (n:Nat),((List.toArray l)[n]?).bind (·.dst)=gtmp l n
 | [],n=>by simp [gtmp]
 | o::l,0=>by simp [gtmp]
 | o::l,n+1=>by have:=gtmp_eq l n;simpa [gtmp] using this
theorem gtmp_zero (dst:Option Tmp) (op:Op) (ty:TypeId) (pos:String) (after:Array Edge) (g:Option (Nat × Bool)) (l:List Oper):gtmp (⟨dst,op,ty,pos,after,g⟩::l) 0=dst:=Eq.trans (Eq.refl _) (Eq.refl _)
theorem gtmp_succ (o:Oper) (l:List Oper) (n:Nat):gtmp (o::l) (n+1)=gtmp l n:=Eq.trans (Eq.refl _) (Eq.refl _)
def dguardT (t:Option Tmp) (f:Fm) (want:Bool) (y n:Prop):Prop:=match t with
 | some t=>match f t with
  | .v (.bool b)=>(b=want→y)∧(b = !want→n)
  | .tup []=>n
  | _=>False
 | none=>False
def dguard (x:D) (want:Bool) (y n:Prop):Prop:=match x with
 | .v (.bool b)=>(b=want→y)∧(b = !want→n)
 | .tup []=>n
 | _=>False
theorem dguardT_some (t:Tmp) (want:Bool) (y n:Prop):dguardT (some t) f want y n=dguard (f t) want y n:=Eq.trans (Eq.refl _) (Eq.refl _)
section
variable {y n : Prop} {ty : TypeId} {op : Op} {K : D → St → Prop} {ops : Array Oper} {R : Fm → St → Prop} {r : List Oper} {dst : Option Tmp}
theorem dg_tt:dguard (.v (.bool true)) true (dopF P f S ty op K) n=dop P f S ty op K:=by simp [dguard,dopF]
theorem dg_ff:dguard (.v (.bool false)) false (dopF P f S ty op K) n=dop P f S ty op K:=by simp [dguard,dopF]
theorem dg_tf:dguard (.v (.bool true)) false y (dskip P ops R r f dst S)=dops P ops R r (put f dst undefD) S:=by simp [dguard,dskip]
theorem dg_ft:dguard (.v (.bool false)) true y (dskip P ops R r f dst S)=dops P ops R r (put f dst undefD) S:=by simp [dguard,dskip]
theorem dg_no (want:Bool):dguard undefD want y (dskip P ops R r f dst S)=dops P ops R r (put f dst undefD) S:=Eq.trans (Eq.refl _) (Eq.refl _)
theorem dg_mk {b want:Bool} (h1:b=want→dop P f S ty op K) (h2:b = !want→dops P ops R r (put f dst undefD) S):dguard (.v (.bool b)) want (dopF P f S ty op K) (dskip P ops R r f dst S):=⟨h1,h2⟩
end
theorem dIf_t (x:Code) (Y:Prop):dIf (.v (.bool true)) (dwpF P x Q f S) Y=dwp P x Q f S:=by simp [dIf,dwpF]
theorem dIf_f (y:Code) (X:Prop):dIf (.v (.bool false)) X (dwpF P y Q f S)=dwp P y Q f S:=by simp [dIf,dwpF]
theorem dIf_both {b:Bool} {x y:Code} (h1:b=true→dwp P x Q f S) (h2:b=false→dwp P y Q f S):dIf (.v (.bool b)) (dwpF P x Q f S) (dwpF P y Q f S):=⟨h1,h2⟩
theorem dops_nil (ops:Array Oper) (R:Fm→St→Prop):dops P ops R [] f S=R f S:=Eq.trans (Eq.refl _) (Eq.refl _)
theorem dops_p_move (ops:Array Oper) (R:Fm→St→Prop) (r:List Oper) (dst:Option Tmp) (ty:TypeId) (pos:String) (after:Array Edge) (x:Operand):dops P ops R (⟨dst,.move x,ty,pos,after,none⟩::r) f S=dop P f S ty (.move x) (dnext P ops R r f dst):=(dops_cons ..).trans (Eq.refl _)
theorem dops_g_move (l:List Oper) (R:Fm→St→Prop) (r:List Oper) (dst:Option Tmp) (ty:TypeId) (pos:String) (after:Array Edge) (j:Nat) (want:Bool) (x:Operand):dops P (List.toArray l) R (⟨dst,.move x,ty,pos,after,some (j,want)⟩::r) f S=dguardT (gtmp l j) f want (dopF P f S ty (.move x) (dnext P (List.toArray l) R r f dst)) (dskip P (List.toArray l) R r f dst S):=by
 rw [← gtmp_eq,dops_cons];rfl
theorem dops_p_assign (ops:Array Oper) (R:Fm→St→Prop) (r:List Oper) (dst:Option Tmp) (ty:TypeId) (pos:String) (after:Array Edge) (x:Operand):dops P ops R (⟨dst,.assign x,ty,pos,after,none⟩::r) f S=dop P f S ty (.assign x) (dnext P ops R r f dst):=(dops_cons ..).trans (Eq.refl _)
theorem dops_pb_assign (ops:Array Oper) (R:Fm→St→Prop) (r:List Oper) (dst:Option Tmp) (ty:TypeId) (pos:String) (after:Array Edge) (t0:TypeId) (n0:Nat) (ps0:Array (Nat × Operand)) (dst2:Option Tmp) (ty2:TypeId) (pos2:String) (after2:Array Edge) (g2:Option (Nat × Bool)) (x:Operand):dops P ops R (⟨dst,.buildSlice t0 n0 ps0,ty,pos,after,none⟩::⟨dst2,.assign x,ty2,pos2,after2,g2⟩::r) f S=dop P f S ty (.buildSlice t0 n0 ps0) (dnext P ops R (⟨dst2,.assign x,ty2,pos2,after2,g2⟩::r) f dst):=(dops_cons ..).trans (Eq.refl _)
theorem dops_p_pick (ops:Array Oper) (R:Fm→St→Prop) (r:List Oper) (dst:Option Tmp) (ty:TypeId) (pos:String) (after:Array Edge) (c a b:Operand):dops P ops R (⟨dst,.pick c a b,ty,pos,after,none⟩::r) f S=dop P f S ty (.pick c a b) (dnext P ops R r f dst):=(dops_cons ..).trans (Eq.refl _)
theorem dops_g_pick (l:List Oper) (R:Fm→St→Prop) (r:List Oper) (dst:Option Tmp) (ty:TypeId) (pos:String) (after:Array Edge) (j:Nat) (want:Bool) (c a b:Operand):dops P (List.toArray l) R (⟨dst,.pick c a b,ty,pos,after,some (j,want)⟩::r) f S=dguardT (gtmp l j) f want (dopF P f S ty (.pick c a b) (dnext P (List.toArray l) R r f dst)) (dskip P (List.toArray l) R r f dst S):=by
 rw [← gtmp_eq,dops_cons];rfl
theorem dops_p_alloc (ops:Array Oper) (R:Fm→St→Prop) (r:List Oper) (dst:Option Tmp) (ty:TypeId) (pos:String) (after:Array Edge) (elem:TypeId):dops P ops R (⟨dst,.alloc elem,ty,pos,after,none⟩::r) f S=dop P f S ty (.alloc elem) (dnext P ops R r f dst):=(dops_cons ..).trans (Eq.refl _)
theorem dops_p_box (ops:Array Oper) (R:Fm→St→Prop) (r:List Oper) (dst:Option Tmp) (ty:TypeId) (pos:String) (after:Array Edge) (elem:TypeId) (v:Operand):dops P ops R (⟨dst,.box elem v,ty,pos,after,none⟩::r) f S=dop P f S ty (.box elem v) (dnext P ops R r f dst):=(dops_cons ..).trans (Eq.refl _)
theorem dops_p_build (ops:Array Oper) (R:Fm→St→Prop) (r:List Oper) (dst:Option Tmp) (ty:TypeId) (pos:String) (after:Array Edge) (t:TypeId) (parts:Array (Nat × Operand)):dops P ops R (⟨dst,.build t parts,ty,pos,after,none⟩::r) f S=dop P f S ty (.build t parts) (dnext P ops R r f dst):=(dops_cons ..).trans (Eq.refl _)
theorem dops_g_build (l:List Oper) (R:Fm→St→Prop) (r:List Oper) (dst:Option Tmp) (ty:TypeId) (pos:String) (after:Array Edge) (j:Nat) (want:Bool) (t:TypeId) (parts:Array (Nat × Operand)):dops P (List.toArray l) R (⟨dst,.build t parts,ty,pos,after,some (j,want)⟩::r) f S=dguardT (gtmp l j) f want (dopF P f S ty (.build t parts) (dnext P (List.toArray l) R r f dst)) (dskip P (List.toArray l) R r f dst S):=by
 rw [← gtmp_eq,dops_cons];rfl
theorem dops_pb_build (ops:Array Oper) (R:Fm→St→Prop) (r:List Oper) (dst:Option Tmp) (ty:TypeId) (pos:String) (after:Array Edge) (t0:TypeId) (n0:Nat) (ps0:Array (Nat × Operand)) (dst2:Option Tmp) (ty2:TypeId) (pos2:String) (after2:Array Edge) (g2:Option (Nat × Bool)) (t:TypeId) (parts:Array (Nat × Operand)):dops P ops R (⟨dst,.buildSlice t0 n0 ps0,ty,pos,after,none⟩::⟨dst2,.build t parts,ty2,pos2,after2,g2⟩::r) f S=dop P f S ty (.buildSlice t0 n0 ps0) (dnext P ops R (⟨dst2,.build t parts,ty2,pos2,after2,g2⟩::r) f dst):=(dops_cons ..).trans (Eq.refl _)
theorem dops_p_load (ops:Array Oper) (R:Fm→St→Prop) (r:List Oper) (dst:Option Tmp) (ty:TypeId) (pos:String) (after:Array Edge) (t:TypeId) (addr:Operand):dops P ops R (⟨dst,.load t addr,ty,pos,after,none⟩::r) f S=dop P f S ty (.load t addr) (dnext P ops R r f dst):=(dops_cons ..).trans (Eq.refl _)
theorem dops_g_load (l:List Oper) (R:Fm→St→Prop) (r:List Oper) (dst:Option Tmp) (ty:TypeId) (pos:String) (after:Array Edge) (j:Nat) (want:Bool) (t:TypeId) (addr:Operand):dops P (List.toArray l) R (⟨dst,.load t addr,ty,pos,after,some (j,want)⟩::r) f S=dguardT (gtmp l j) f want (dopF P f S ty (.load t addr) (dnext P (List.toArray l) R r f dst)) (dskip P (List.toArray l) R r f dst S):=by
 rw [← gtmp_eq,dops_cons];rfl
theorem dops_p_store (ops:Array Oper) (R:Fm→St→Prop) (r:List Oper) (dst:Option Tmp) (ty:TypeId) (pos:String) (after:Array Edge) (t:TypeId) (addr val:Operand):dops P ops R (⟨dst,.store t addr val,ty,pos,after,none⟩::r) f S=dop P f S ty (.store t addr val) (dnext P ops R r f dst):=(dops_cons ..).trans (Eq.refl _)
theorem dops_p_nilCheck (ops:Array Oper) (R:Fm→St→Prop) (r:List Oper) (dst:Option Tmp) (ty:TypeId) (pos:String) (after:Array Edge) (x:Operand):dops P ops R (⟨dst,.nilCheck x,ty,pos,after,none⟩::r) f S=dop P f S ty (.nilCheck x) (dnext P ops R r f dst):=(dops_cons ..).trans (Eq.refl _)
theorem dops_g_nilCheck (l:List Oper) (R:Fm→St→Prop) (r:List Oper) (dst:Option Tmp) (ty:TypeId) (pos:String) (after:Array Edge) (j:Nat) (want:Bool) (x:Operand):dops P (List.toArray l) R (⟨dst,.nilCheck x,ty,pos,after,some (j,want)⟩::r) f S=dguardT (gtmp l j) f want (dopF P f S ty (.nilCheck x) (dnext P (List.toArray l) R r f dst)) (dskip P (List.toArray l) R r f dst S):=by
 rw [← gtmp_eq,dops_cons];rfl
theorem dops_p_binOp (ops:Array Oper) (R:Fm→St→Prop) (r:List Oper) (dst:Option Tmp) (ty:TypeId) (pos:String) (after:Array Edge) (op:BinOp) (xType:TypeId) (x y:Operand) (yType:TypeId):dops P ops R (⟨dst,.binOp op xType x y yType,ty,pos,after,none⟩::r) f S=dop P f S ty (.binOp op xType x y yType) (dnext P ops R r f dst):=(dops_cons ..).trans (Eq.refl _)
theorem dops_g_binOp (l:List Oper) (R:Fm→St→Prop) (r:List Oper) (dst:Option Tmp) (ty:TypeId) (pos:String) (after:Array Edge) (j:Nat) (want:Bool) (op:BinOp) (xType:TypeId) (x y:Operand) (yType:TypeId):dops P (List.toArray l) R (⟨dst,.binOp op xType x y yType,ty,pos,after,some (j,want)⟩::r) f S=dguardT (gtmp l j) f want (dopF P f S ty (.binOp op xType x y yType) (dnext P (List.toArray l) R r f dst)) (dskip P (List.toArray l) R r f dst S):=by
 rw [← gtmp_eq,dops_cons];rfl
theorem dops_p_unOp (ops:Array Oper) (R:Fm→St→Prop) (r:List Oper) (dst:Option Tmp) (ty:TypeId) (pos:String) (after:Array Edge) (op:UnOp) (xType:TypeId) (x:Operand):dops P ops R (⟨dst,.unOp op xType x,ty,pos,after,none⟩::r) f S=dop P f S ty (.unOp op xType x) (dnext P ops R r f dst):=(dops_cons ..).trans (Eq.refl _)
theorem dops_g_unOp (l:List Oper) (R:Fm→St→Prop) (r:List Oper) (dst:Option Tmp) (ty:TypeId) (pos:String) (after:Array Edge) (j:Nat) (want:Bool) (op:UnOp) (xType:TypeId) (x:Operand):dops P (List.toArray l) R (⟨dst,.unOp op xType x,ty,pos,after,some (j,want)⟩::r) f S=dguardT (gtmp l j) f want (dopF P f S ty (.unOp op xType x) (dnext P (List.toArray l) R r f dst)) (dskip P (List.toArray l) R r f dst S):=by
 rw [← gtmp_eq,dops_cons];rfl
theorem dops_p_convert (ops:Array Oper) (R:Fm→St→Prop) (r:List Oper) (dst:Option Tmp) (ty:TypeId) (pos:String) (after:Array Edge) (src d':TypeId) (x:Operand):dops P ops R (⟨dst,.convert src d' x,ty,pos,after,none⟩::r) f S=dop P f S ty (.convert src d' x) (dnext P ops R r f dst):=(dops_cons ..).trans (Eq.refl _)
theorem dops_p_makeInterface (ops:Array Oper) (R:Fm→St→Prop) (r:List Oper) (dst:Option Tmp) (ty:TypeId) (pos:String) (after:Array Edge) (xType:TypeId) (x:Operand):dops P ops R (⟨dst,.makeInterface xType x,ty,pos,after,none⟩::r) f S=dop P f S ty (.makeInterface xType x) (dnext P ops R r f dst):=(dops_cons ..).trans (Eq.refl _)
theorem dops_p_makeFunc (ops:Array Oper) (R:Fm→St→Prop) (r:List Oper) (dst:Option Tmp) (ty:TypeId) (pos:String) (after:Array Edge) (fn:Fn) (first captured:Array Operand):dops P ops R (⟨dst,.makeFunc fn first captured,ty,pos,after,none⟩::r) f S=dop P f S ty (.makeFunc fn first captured) (dnext P ops R r f dst):=(dops_cons ..).trans (Eq.refl _)
theorem dops_g_makeFunc (l:List Oper) (R:Fm→St→Prop) (r:List Oper) (dst:Option Tmp) (ty:TypeId) (pos:String) (after:Array Edge) (j:Nat) (want:Bool) (fn:Fn) (first captured:Array Operand):dops P (List.toArray l) R (⟨dst,.makeFunc fn first captured,ty,pos,after,some (j,want)⟩::r) f S=dguardT (gtmp l j) f want (dopF P f S ty (.makeFunc fn first captured) (dnext P (List.toArray l) R r f dst)) (dskip P (List.toArray l) R r f dst S):=by
 rw [← gtmp_eq,dops_cons];rfl
theorem dops_p_makeMap (ops:Array Oper) (R:Fm→St→Prop) (r:List Oper) (dst:Option Tmp) (ty:TypeId) (pos:String) (after:Array Edge) (t:TypeId) (reserve:Option Operand):dops P ops R (⟨dst,.makeMap t reserve,ty,pos,after,none⟩::r) f S=dop P f S ty (.makeMap t reserve) (dnext P ops R r f dst):=(dops_cons ..).trans (Eq.refl _)
theorem dops_p_makeSlice (ops:Array Oper) (R:Fm→St→Prop) (r:List Oper) (dst:Option Tmp) (ty:TypeId) (pos:String) (after:Array Edge) (t:TypeId) (len cap:Operand):dops P ops R (⟨dst,.makeSlice t len cap,ty,pos,after,none⟩::r) f S=dop P f S ty (.makeSlice t len cap) (dnext P ops R r f dst):=(dops_cons ..).trans (Eq.refl _)
theorem dops_p_slice (ops:Array Oper) (R:Fm→St→Prop) (r:List Oper) (dst:Option Tmp) (ty:TypeId) (pos:String) (after:Array Edge) (xType:TypeId) (x:Operand) (low high max:Option Operand):dops P ops R (⟨dst,.slice xType x low high max,ty,pos,after,none⟩::r) f S=dop P f S ty (.slice xType x low high max) (dnext P ops R r f dst):=(dops_cons ..).trans (Eq.refl _)
theorem dops_p_fieldAddr (ops:Array Oper) (R:Fm→St→Prop) (r:List Oper) (dst:Option Tmp) (ty:TypeId) (pos:String) (after:Array Edge) (xType:TypeId) (x:Operand) (field:Nat):dops P ops R (⟨dst,.fieldAddr xType x field,ty,pos,after,none⟩::r) f S=dop P f S ty (.fieldAddr xType x field) (dnext P ops R r f dst):=(dops_cons ..).trans (Eq.refl _)
theorem dops_g_fieldAddr (l:List Oper) (R:Fm→St→Prop) (r:List Oper) (dst:Option Tmp) (ty:TypeId) (pos:String) (after:Array Edge) (j:Nat) (want:Bool) (xType:TypeId) (x:Operand) (field:Nat):dops P (List.toArray l) R (⟨dst,.fieldAddr xType x field,ty,pos,after,some (j,want)⟩::r) f S=dguardT (gtmp l j) f want (dopF P f S ty (.fieldAddr xType x field) (dnext P (List.toArray l) R r f dst)) (dskip P (List.toArray l) R r f dst S):=by
 rw [← gtmp_eq,dops_cons];rfl
theorem dops_pb_fieldAddr (ops:Array Oper) (R:Fm→St→Prop) (r:List Oper) (dst:Option Tmp) (ty:TypeId) (pos:String) (after:Array Edge) (t0:TypeId) (n0:Nat) (ps0:Array (Nat × Operand)) (dst2:Option Tmp) (ty2:TypeId) (pos2:String) (after2:Array Edge) (g2:Option (Nat × Bool)) (xType:TypeId) (x:Operand) (field:Nat):dops P ops R (⟨dst,.buildSlice t0 n0 ps0,ty,pos,after,none⟩::⟨dst2,.fieldAddr xType x field,ty2,pos2,after2,g2⟩::r) f S=dop P f S ty (.buildSlice t0 n0 ps0) (dnext P ops R (⟨dst2,.fieldAddr xType x field,ty2,pos2,after2,g2⟩::r) f dst):=(dops_cons ..).trans (Eq.refl _)
theorem dops_p_indexAddr (ops:Array Oper) (R:Fm→St→Prop) (r:List Oper) (dst:Option Tmp) (ty:TypeId) (pos:String) (after:Array Edge) (xType:TypeId) (x index:Operand):dops P ops R (⟨dst,.indexAddr xType x index,ty,pos,after,none⟩::r) f S=dop P f S ty (.indexAddr xType x index) (dnext P ops R r f dst):=(dops_cons ..).trans (Eq.refl _)
theorem dops_g_indexAddr (l:List Oper) (R:Fm→St→Prop) (r:List Oper) (dst:Option Tmp) (ty:TypeId) (pos:String) (after:Array Edge) (j:Nat) (want:Bool) (xType:TypeId) (x index:Operand):dops P (List.toArray l) R (⟨dst,.indexAddr xType x index,ty,pos,after,some (j,want)⟩::r) f S=dguardT (gtmp l j) f want (dopF P f S ty (.indexAddr xType x index) (dnext P (List.toArray l) R r f dst)) (dskip P (List.toArray l) R r f dst S):=by
 rw [← gtmp_eq,dops_cons];rfl
theorem dops_p_index (ops:Array Oper) (R:Fm→St→Prop) (r:List Oper) (dst:Option Tmp) (ty:TypeId) (pos:String) (after:Array Edge) (xType:TypeId) (x index:Operand):dops P ops R (⟨dst,.index xType x index,ty,pos,after,none⟩::r) f S=dop P f S ty (.index xType x index) (dnext P ops R r f dst):=(dops_cons ..).trans (Eq.refl _)
theorem dops_p_mapUpdate (ops:Array Oper) (R:Fm→St→Prop) (r:List Oper) (dst:Option Tmp) (ty:TypeId) (pos:String) (after:Array Edge) (mapType:TypeId) (map key value:Operand):dops P ops R (⟨dst,.mapUpdate mapType map key value,ty,pos,after,none⟩::r) f S=dop P f S ty (.mapUpdate mapType map key value) (dnext P ops R r f dst):=(dops_cons ..).trans (Eq.refl _)
theorem dops_p_extract (ops:Array Oper) (R:Fm→St→Prop) (r:List Oper) (dst:Option Tmp) (ty:TypeId) (pos:String) (after:Array Edge) (tuple:Operand) (index:Nat):dops P ops R (⟨dst,.extract tuple index,ty,pos,after,none⟩::r) f S=dop P f S ty (.extract tuple index) (dnext P ops R r f dst):=(dops_cons ..).trans (Eq.refl _)
theorem dops_p_call (ops:Array Oper) (R:Fm→St→Prop) (r:List Oper) (dst:Option Tmp) (ty:TypeId) (pos:String) (after:Array Edge) (c:Call):dops P ops R (⟨dst,.call c,ty,pos,after,none⟩::r) f S=dop P f S ty (.call c) (dnext P ops R r f dst):=(dops_cons ..).trans (Eq.refl _)
theorem dops_g_call (l:List Oper) (R:Fm→St→Prop) (r:List Oper) (dst:Option Tmp) (ty:TypeId) (pos:String) (after:Array Edge) (j:Nat) (want:Bool) (c:Call):dops P (List.toArray l) R (⟨dst,.call c,ty,pos,after,some (j,want)⟩::r) f S=dguardT (gtmp l j) f want (dopF P f S ty (.call c) (dnext P (List.toArray l) R r f dst)) (dskip P (List.toArray l) R r f dst S):=by
 rw [← gtmp_eq,dops_cons];rfl
theorem dops_pb_call (ops:Array Oper) (R:Fm→St→Prop) (r:List Oper) (dst:Option Tmp) (ty:TypeId) (pos:String) (after:Array Edge) (t0:TypeId) (n0:Nat) (ps0:Array (Nat × Operand)) (dst2:Option Tmp) (ty2:TypeId) (pos2:String) (after2:Array Edge) (g2:Option (Nat × Bool)) (c:Call):dops P ops R (⟨dst,.buildSlice t0 n0 ps0,ty,pos,after,none⟩::⟨dst2,.call c,ty2,pos2,after2,g2⟩::r) f S=dop P f S ty (.buildSlice t0 n0 ps0) (dnext P ops R (⟨dst2,.call c,ty2,pos2,after2,g2⟩::r) f dst):=(dops_cons ..).trans (Eq.refl _)
def onValS (o:Option (Prop × D)) (K:D→St→Prop) (S:St):Prop:=match o with
 | some (c,d)=>c∧K d S
 | none=>False
theorem onValS_some (c:Prop) (d:D) (K:D→St→Prop):onValS (some (c,d)) K S=(c∧K d S):=Eq.trans (Eq.refl _) (Eq.refl _)
theorem onVal_some (c:Prop) (d:D) (K:D→Prop):onVal (some (c,d)) K=(c∧K d):=Eq.trans (Eq.refl _) (Eq.refl _)
theorem dop_move {ty:TypeId} {K:D→St→Prop} (x:Operand):dop P f S ty (.move x) K=onValS (dval P f S ty (.move x)) K S:=by
 unfold dop;exact Eq.trans (Eq.refl _) (Eq.refl _)
theorem dop_assign {ty:TypeId} {K:D→St→Prop} (x:Operand):dop P f S ty (.assign x) K=onValS (dval P f S ty (.assign x)) K S:=by
 unfold dop;exact Eq.trans (Eq.refl _) (Eq.refl _)
theorem dop_pick {ty:TypeId} {K:D→St→Prop} (c x y:Operand):dop P f S ty (.pick c x y) K=onValS (dval P f S ty (.pick c x y)) K S:=by
 unfold dop;exact Eq.trans (Eq.refl _) (Eq.refl _)
theorem dop_load {ty:TypeId} {K:D→St→Prop} (t:TypeId) (x:Operand):dop P f S ty (.load t x) K=onValS (dval P f S ty (.load t x)) K S:=by
 unfold dop;exact Eq.trans (Eq.refl _) (Eq.refl _)
theorem dop_fieldAddr {ty:TypeId} {K:D→St→Prop} (t:TypeId) (x:Operand) (i:Nat):dop P f S ty (.fieldAddr t x i) K=onValS (dval P f S ty (.fieldAddr t x i)) K S:=by
 unfold dop;exact Eq.trans (Eq.refl _) (Eq.refl _)
theorem dop_indexAddr {ty:TypeId} {K:D→St→Prop} (t:TypeId) (x i:Operand):dop P f S ty (.indexAddr t x i) K=onValS (dval P f S ty (.indexAddr t x i)) K S:=by
 unfold dop;exact Eq.trans (Eq.refl _) (Eq.refl _)
theorem dop_index {ty:TypeId} {K:D→St→Prop} (t:TypeId) (x i:Operand):dop P f S ty (.index t x i) K=onValS (dval P f S ty (.index t x i)) K S:=by
 unfold dop;exact Eq.trans (Eq.refl _) (Eq.refl _)
theorem dop_extract {ty:TypeId} {K:D→St→Prop} (x:Operand) (i:Nat):dop P f S ty (.extract x i) K=onValS (dval P f S ty (.extract x i)) K S:=by
 unfold dop;exact Eq.trans (Eq.refl _) (Eq.refl _)
theorem dop_makeFunc {ty:TypeId} {K:D→St→Prop} (fn:Fn) (fs cs:Array Operand):dop P f S ty (.makeFunc fn fs cs) K=onValS (dval P f S ty (.makeFunc fn fs cs)) K S:=by
 unfold dop;exact Eq.trans (Eq.refl _) (Eq.refl _)
theorem dop_makeInterface {ty:TypeId} {K:D→St→Prop} (t:TypeId) (x:Operand):dop P f S ty (.makeInterface t x) K=onValS (dval P f S ty (.makeInterface t x)) K S:=by
 unfold dop;exact Eq.trans (Eq.refl _) (Eq.refl _)
theorem dop_nilCheck {ty:TypeId} {K:D→St→Prop} (x:Operand):dop P f S ty (.nilCheck x) K=onValS (dval P f S ty (.nilCheck x)) K S:=by
 unfold dop;exact Eq.trans (Eq.refl _) (Eq.refl _)
theorem dop_slice {ty:TypeId} {K:D→St→Prop} (t:TypeId) (x:Operand) (lo hi mx:Option Operand):dop P f S ty (.slice t x lo hi mx) K=onValS (dval P f S ty (.slice t x lo hi mx)) K S:=by
 unfold dop;exact Eq.trans (Eq.refl _) (Eq.refl _)
theorem dop_binOp {ty:TypeId} {K:D→St→Prop} (op:BinOp) (t:TypeId) (x y:Operand) (u:TypeId):dop P f S ty (.binOp op t x y u) K=onValS (dval P f S ty (.binOp op t x y u)) K S:=by
 unfold dop;exact Eq.trans (Eq.refl _) (Eq.refl _)
theorem dop_unOp {ty:TypeId} {K:D→St→Prop} (op:UnOp) (t:TypeId) (x:Operand):dop P f S ty (.unOp op t x) K=onValS (dval P f S ty (.unOp op t x)) K S:=by
 unfold dop;exact Eq.trans (Eq.refl _) (Eq.refl _)
theorem dop_convert {ty:TypeId} {K:D→St→Prop} (s t:TypeId) (x:Operand):dop P f S ty (.convert s t x) K=onValS (orD (dnew P f S (.convert s t x)) (dval P f S ty (.convert s t x))) K S:=by
 unfold dop;exact Eq.trans (Eq.refl _) (Eq.refl _)
theorem dop_b_len {ty:TypeId} {K:D→St→Prop} (args:Array Operand) (ts:Array TypeId):dop P f S ty (.call ⟨.builtin .len,args,ts⟩) K=onValS (dval P f S ty (.call ⟨.builtin .len,args,ts⟩)) K S:=by
 unfold dop;exact Eq.trans (Eq.refl _) (Eq.refl _)
theorem dop_b_cap {ty:TypeId} {K:D→St→Prop} (args:Array Operand) (ts:Array TypeId):dop P f S ty (.call ⟨.builtin .cap,args,ts⟩) K=onValS (dval P f S ty (.call ⟨.builtin .cap,args,ts⟩)) K S:=by
 unfold dop;exact Eq.trans (Eq.refl _) (Eq.refl _)
theorem dop_buildSlice {ty:TypeId} {K:D→St→Prop} (t:TypeId) (n:Nat) (ps:Array (Nat × Operand)):dop P f S ty (.buildSlice t n ps) K=onValS (dnew P f S (.buildSlice t n ps)) K S:=by
 unfold dop;exact Eq.trans (Eq.refl _) (Eq.refl _)
theorem dop_build {ty:TypeId} {K:D→St→Prop} (t:TypeId) (ps:Array (Nat × Operand)):dop P f S ty (.build t ps) K=onValS (dnew P f S (.build t ps)) K S:=by
 unfold dop;exact Eq.trans (Eq.refl _) (Eq.refl _)
theorem dop_alloc {ty:TypeId} {K:D→St→Prop} (t:TypeId):dop P f S ty (.alloc t) K=(zeroOk P t=true∧K (.loc S.next 0) (S.add (.box t (zeroD P t)))):=Eq.trans (Eq.refl _) (Eq.refl _)
theorem dop_box {ty:TypeId} {K:D→St→Prop} (t:TypeId) (x:Operand):dop P f S ty (.box t x) K=((ev f x).okCell=true∧K (.loc S.next 0) (S.add (.box t (ev f x).cells))):=Eq.trans (Eq.refl _) (Eq.refl _)
def dstore (P:Program) (S:St) (t:TypeId) (x y:D) (K:D→St→Prop):Prop:=match x with
 | .loc k off=>match S.ob k with
  | some (.box t' cs)=>y.okCell=true∧(P.info? t).isSome=true∧y.width=szOf P t∧off+szOf P t≤cs.length∧K undefD (S.set k (.box t' (splice cs off y.cells)))
  | _=>False
 | _=>False
theorem dop_store {ty:TypeId} {K:D→St→Prop} (t:TypeId) (x y:Operand):dop P f S ty (.store t x y) K=dstore P S t (ev f x) (ev f y) K:=Eq.trans (Eq.refl _) (Eq.refl _)
def dcall (P:Program) (S:St) (x:D) (args:List D) (K:D→St→Prop):Prop:=match x with
 | .fn (.func g) fs cs=>DCalls P g (fs++args++cs) S K
 | _=>False
theorem dcall_fn (g:FuncId) (fs args cs:List D) (K:D→St→Prop):dcall P S (.fn (.func g) fs cs) args K=DCalls P g (fs++args++cs) S K:=Eq.trans (Eq.refl _) (Eq.refl _)
theorem dop_call {ty:TypeId} {K:D→St→Prop} (x:Operand) (args:List Operand) (ts:Array TypeId):dop P f S ty (.call ⟨.value x,List.toArray args,ts⟩) K=dcall P S (ev f x) (args.map (ev f)) K:=Eq.trans (Eq.refl _) (Eq.refl _)
def dappend (P:Program) (S:St) (t tx:TypeId) (x y:D) (K:D→St→Prop):Prop:=match x,y with
 | .sl own es,.sl _ es2=>match elT P t with
  | some e=>(elT P tx).isSome=true∧zeroT P e=true∧(∀ d∈es,d.width=szOf P e)∧(∀ d∈es2,d.width=szOf P e)∧(match own with | .full=>True | .row g=>S.ob g=some (.row e es.length) | .no=>False)∧es.length+es2.length≤140737488355328∧(es.length+es2.length) * bytesOf P e≤140737488355328∧K (.sl (.row S.next) (es++es2)) (S.grow own e (es.length+es2.length))
  | none=>False
 | _,_=>False
def dapp (P:Program) (S:St) (t tx:TypeId) (ty:TypeId) (x y:D) (K:D→St→Prop):Prop:=match x with
 | .win k off n c=>DRun P (fun vs=>Builtin.append_ #[t,tx] ty vs.toArray) [.win k off n c,y] S K
 | x=>dappend P S t tx x y K∨match x,y with
  | .sl own es,.sl o2 es2=>match elT P t with
   | some e=>appWin P S e tx own es es2 K∨DRun P (fun vs=>Builtin.append_ #[t,tx] ty vs.toArray) [.sl own es,.sl o2 es2] S K
   | none=>False
  | .sl own es,.win k off n c=>DRun P (fun vs=>Builtin.append_ #[t,tx] ty vs.toArray) [.sl own es,.win k off n c] S K
  | .sl own es,.v u=>DRun P (fun vs=>Builtin.append_ #[t,tx] ty vs.toArray) [.sl own es,.v u] S K
  | _,_=>False
theorem dapp_srcV {t tx ty:TypeId} {own:Own} {es:List D} {u:Value} {K:D→St→Prop} (h:DRun P (fun vs=>Builtin.append_ #[t,tx] ty vs.toArray) [.sl own es,.v u] S K):dapp P S t tx ty (.sl own es) (.v u) K:=.inr h
theorem dapp_row {t tx ty:TypeId} {own:Own} {es:List D} {y:D} {K:D→St→Prop} (h:dappend P S t tx (.sl own es) y K):dapp P S t tx ty (.sl own es) y K:=.inl h
theorem dapp_step {t tx ty:TypeId} {own o2:Own} {es es2:List D} {e:TypeId} {K:D→St→Prop} (he:elT P t=some e) (h:DRun P (fun vs=>Builtin.append_ #[t,tx] ty vs.toArray) [.sl own es,.sl o2 es2] S K):dapp P S t tx ty (.sl own es) (.sl o2 es2) K:=.inr (by simp only [he];exact .inr h)
theorem dop_append {ty:TypeId} {K:D→St→Prop} (x y:Operand) (t tx:TypeId):dop P f S ty (.call ⟨.builtin .append,#[x,y],#[t,tx]⟩) K=dapp P S t tx ty (ev f x) (ev f y) K:=by
 simp only [dop,List.map_cons,List.map_nil]
 generalize ev f x=a
 generalize ev f y=b
 cases a <;> first | rfl | (simp only [dapp,dappend];cases he:elT P t <;> cases b <;> (try simp only [he,or_false,false_or,or_self]) <;> rfl)
def dcopy (P:Program) (ts:Array TypeId) (ty:TypeId) (x y:D) (S:St) (K:D→St→Prop):Prop:=DRun P (fun vs=>Builtin.copy_ ts ty vs.toArray) [x,y] S K
theorem dop_copy {ty:TypeId} {K:D→St→Prop} (x y:Operand) (ts:Array TypeId):dop P f S ty (.call ⟨.builtin .copy,#[x,y],ts⟩) K=dcopy P ts ty (ev f x) (ev f y) S K:=Eq.trans (Eq.refl _) (Eq.refl _)
def dclear (P:Program) (ts:Array TypeId) (ty:TypeId) (x:D) (S:St) (K:D→St→Prop):Prop:=DRun P (fun vs=>Builtin.clear_ ts ty vs.toArray) [x] S K
theorem dop_clear {ty:TypeId} {K:D→St→Prop} (x:Operand) (ts:Array TypeId):dop P f S ty (.call ⟨.builtin .clear,#[x],ts⟩) K=dclear P ts ty (ev f x) S K:=Eq.trans (Eq.refl _) (Eq.refl _)
def dmakeS (P:Program) (t:TypeId) (x y:D) (S:St) (K:D→St→Prop):Prop:=DRun P (fun vs=>Instr.makeSlice t (vs.getD 0 undef) (vs.getD 1 undef)) [x,y] S K
theorem dop_makeSlice {ty:TypeId} {K:D→St→Prop} (t:TypeId) (x y:Operand):dop P f S ty (.makeSlice t x y) K=dmakeS P t (ev f x) (ev f y) S K:=Eq.trans (Eq.refl _) (Eq.refl _)
def dlookup (P:Program) (t:TypeId) (x i:D) (ok:Bool) (S:St) (K:D→St→Prop):Prop:=DRun P (fun vs=>Instr.lookup t (vs.getD 0 undef) (vs.getD 1 undef) ok) [x,i] S K
theorem dop_lookup {ty:TypeId} {K:D→St→Prop} (t:TypeId) (x i:Operand) (ok:Bool):dop P f S ty (.lookup t x i ok) K=dlookup P t (ev f x) (ev f i) ok S K:=Eq.trans (Eq.refl _) (Eq.refl _)
def dinvoke (P:Program) (x:D) (m:String) (args:List D) (S:St) (K:D→St→Prop):Prop:=match x with
 | .ifc t d=>∃ g d',DMeth P t d m g d'∧DCalls P g (d'::args) S K
 | _=>False
theorem dop_invoke {ty:TypeId} {K:D→St→Prop} (r:Operand) (m:String) (args:List Operand) (ts:Array TypeId):dop P f S ty (.call ⟨.invoke r m,List.toArray args,ts⟩) K=dinvoke P (ev f r) m (args.map (ev f)) S K:=Eq.trans (Eq.refl _) (Eq.refl _)
theorem dinvoke_mk {t:TypeId} {d d':D} {m:String} {g:FuncId} {args:List D} {K:D→St→Prop} (h1:DMeth P t d m g d') (h2:DCalls P g (d'::args) S K):dinvoke P (.ifc t d) m args S K:=⟨g,d',h1,h2⟩
theorem add_next (S:St) (o:Ob):(S.add o).next=S.next+1:=Eq.trans (Eq.refl _) (Eq.refl _)
theorem add_ob (S:St) (o:Ob) (k:Nat):(S.add o).ob k=if k=S.next then some o else S.ob k:=Eq.trans (Eq.refl _) (Eq.refl _)
theorem set_next (S:St) (k:Nat) (o:Ob):(S.set k o).next=S.next:=Eq.trans (Eq.refl _) (Eq.refl _)
theorem set_ob (S:St) (k j:Nat) (o:Ob):(S.set k o).ob j=if j=k then some o else S.ob j:=Eq.trans (Eq.refl _) (Eq.refl _)
theorem grow_next (S:St) (own:Own) (e:TypeId) (n:Nat):(S.grow own e n).next=S.next+1:=by cases own <;> rfl
theorem grow_full_ob (S:St) (e:TypeId) (n k:Nat):(S.grow .full e n).ob k=if k=S.next then some (.row e n) else S.ob k:=Eq.trans (Eq.refl _) (Eq.refl _)
theorem grow_row_ob (S:St) (g:Nat) (e:TypeId) (n k:Nat):(S.grow (.row g) e n).ob k=if k=S.next then some (.row e n) else if k=g then none else S.ob k:=Eq.trans (Eq.refl _) (Eq.refl _)
def dround (I:Fm→St→Prop) (μ:Fm→St→Nat) (n:Nat) (f':Fm) (S':St):Prop:=∃ S'':St,(S''.next=S'.next∧∀ k o,S''.ob k=some o→S'.ob k=some o)∧I f' S''∧μ f' S''<n
theorem dloop_mk {body:DQ→Fm→St→Prop} (I:Fm→St→Prop) (μ:Fm→St→Nat) (h0:I f S)
  (hr:∀ g T,I g T→body (DQ.then (dround I μ (μ g T)) Q) g T):DLoop body Q f S:=⟨I,μ,h0,hr⟩
theorem round_end {I:Fm→St→Prop} {μ:Fm→St→Nat} {n:Nat} {f':Fm} {S':St} (h:I f' S') (hm:μ f' S'<n):dround I μ n f' S':=⟨S',⟨rfl,fun _ _ h=>h⟩,h,hm⟩
theorem round_back {I:Fm→St→Prop} {μ:Fm→St→Nat} {n:Nat} {f':Fm} {S':St} (ob:Nat→Option Ob) (hs:∀ k o,ob k=some o→S'.ob k=some o) (h:I f' ⟨S'.next,ob⟩) (hm:μ f' ⟨S'.next,ob⟩<n):dround I μ n f' S':=⟨⟨S'.next,ob⟩,⟨rfl,hs⟩,h,hm⟩
theorem loop_cut {c:Code} {id:Nat} {k:Fm→St→Prop} (J:Fm→St→Prop) (h:DLoop (dwp P c) (DQ.block id (DQ.then J Q)) f S) (hk:∀ f' S',J f' S'→k f' S'):DLoop (dwp P c) (DQ.block id (DQ.then k Q)) f S :=
 dwp_mono (.loop c) (fun e f' S' hq=>by
  cases e with
  | normal=>exact hk _ _ hq
  | ret=>exact hq
  | exit i =>
   simp only [DQ.block] at *
   cases hb:Nat.beq i id with
   | true=>rw [hb] at hq;exact hk _ _ hq
   | false=>rw [hb] at hq;exact hq) h
def slotN (d:D):Nat:=match d with
 | .v (.int _ q)=>q.toNat
 | _=>0
theorem slotN_int (k:IntKind) (n:Nat):slotN (.v (.int k n))=n:=by simp [slotN]
theorem slotN_succ (k:IntKind) (n:Nat):slotN (.v (.int k ((n:Int)+1)))=n+1:=by simp [slotN]
theorem getD_map {α:Type} (g:α→D) (l:List α) (i:Nat) (h:i<l.length):(l.map g).getD i undefD=g l[i]:=by simp [List.getD,h]
/-! Ends. -/
theorem pfin_ret (t:Tmp) (S':St) (d:D):DQ.pfin P [.tmp t] S d .ret f S'=PFin S S' (f t) d:=by
 simp [DQ.pfin,dresL,dres,onVal,one]
theorem pfin_ret2 (t u:Tmp) (S':St) (d:D):DQ.pfin P [.tmp t,.tmp u] S d .ret f S'=PFin S S' (.tup [f t,f u]) d:=by
 simp [DQ.pfin,dresL,dres,onVal,one]
end

/-! A region that draws its order. -/
section
variable {P : Program} {f : Fm} {S : St}
def hnext (P:Program) (ops:Array Oper) (S:St) (R:Fm→St→Prop) (r:List Oper) (f:Fm) (dst:Option Tmp) (u:Option Ob) (d:D):Prop:=dhead P ops S R r (put f dst d) u
theorem hnext_eq (ops:Array Oper) (R:Fm→St→Prop) (r:List Oper) (dst:Option Tmp) (u:Option Ob) (d:D):hnext P ops S R r f dst u d=dhead P ops S R r (put f dst d) u:=Eq.trans (Eq.refl _) (Eq.refl _)
def hnextN (P:Program) (ops:Array Oper) (S:St) (R:Fm→St→Prop) (r:List Oper) (f:Fm) (dst:Option Tmp) (d:D) (u:Option Ob):Prop:=dhead P ops S R r (put f dst d) u
theorem hnextN_eq (ops:Array Oper) (R:Fm→St→Prop) (r:List Oper) (dst:Option Tmp) (u:Option Ob) (d:D):hnextN P ops S R r f dst d u=dhead P ops S R r (put f dst d) u:=Eq.trans (Eq.refl _) (Eq.refl _)
def hAt (K:D→Option Ob→Prop) (u:Option Ob) (d:D):Prop:=K d u
theorem hAt_eq (K:D→Option Ob→Prop) (u:Option Ob) (d:D):hAt K u d=K d u:=Eq.trans (Eq.refl _) (Eq.refl _)
def hskip (P:Program) (ops:Array Oper) (S:St) (R:Fm→St→Prop) (r:List Oper) (f:Fm) (dst:Option Tmp) (u:Option Ob):Prop:=dhead P ops S R r (put f dst undefD) u
def dquietF (P:Program) (f:Fm) (S:St) (ty:TypeId) (op:Op) (K:D→Prop):Prop:=dquiet P f S ty op K
def dtail (P:Program) (l:List Oper) (R:Fm→St→Prop) (n:Nat) (f:Fm) (S:St):Prop:=dops P (List.toArray l) R (l.drop n) f S
theorem dtail_eq (l:List Oper) (R:Fm→St→Prop) (n:Nat):dtail P l R n f S=dops P (List.toArray l) R (l.drop n) f S:=Eq.trans (Eq.refl _) (Eq.refl _)
theorem ddraw_mk (n:Nat) {l:List Oper} {R:Fm→St→Prop} (h:drawOk l n=true) (k:dhead P (List.toArray (l.take n)) S (dtail P l R n) (l.take n) f none):ddraw P l R f S:=.inl ⟨n,h,k⟩
theorem ddraw_any (Zs:St→Prop) (n:Nat) {l:List Oper} {R:Fm→St→Prop} (hz:Zs S) (h:(n == l.length || heldTailB l n)=true) (k:sAny P .any (List.toArray (l.take n)) Zs (dtail P l R n) (List.toArray (l.take n)).size (Array.replicate (List.toArray (l.take n)).size false) f S):ddraw P l R f S:=.inr ⟨Zs,n,hz,h,k⟩
theorem after_none (S:St):after S none=S:=Eq.trans (Eq.refl _) (Eq.refl _)
theorem dhead_nil (ops:Array Oper) (R:Fm→St→Prop) (u:Option Ob):dhead P ops S R [] f u=R f (after S u):=Eq.trans (Eq.refl _) (Eq.refl _)
theorem dhead_plain (ops:Array Oper) (R:Fm→St→Prop) (r:List Oper) (dst:Option Tmp) (op:Op) (ty:TypeId) (pos:String) (aft:Array Edge) (u:Option Ob):dhead P ops S R (⟨dst,op,ty,pos,aft,none⟩::r) f u=hop P f S u ty op (hnextN P ops S R r f dst):=Eq.trans (Eq.refl _) (Eq.refl _)
theorem dhead_guard (l:List Oper) (R:Fm→St→Prop) (r:List Oper) (dst:Option Tmp) (op:Op) (ty:TypeId) (pos:String) (aft:Array Edge) (j:Nat) (want:Bool) (u:Option Ob) :
  dhead P (List.toArray l) S R (⟨dst,op,ty,pos,aft,some (j,want)⟩::r) f u=dguardT (gtmp l j) f want (dquietF P f S ty op (hnext P (List.toArray l) S R r f dst u)) (hskip P (List.toArray l) S R r f dst u):=by
 rw [← gtmp_eq];rfl
theorem hop_call {ty:TypeId} {K:D→Option Ob→Prop} {uo:Option Ob} (x:Operand) (args:List Operand) (ts:Array TypeId):hop P f S uo ty (.call ⟨.value x,List.toArray args,ts⟩) K=dquiet P f S ty (.call ⟨.value x,List.toArray args,ts⟩) (hAt K uo):=Eq.trans (Eq.refl _) (Eq.refl _)
theorem hop_append {ty:TypeId} {K:D→Option Ob→Prop} {uo:Option Ob} (args:Array Operand) (ts:Array TypeId):hop P f S uo ty (.call ⟨.builtin .append,args,ts⟩) K=dquiet P f S ty (.call ⟨.builtin .append,args,ts⟩) (hAt K uo):=Eq.trans (Eq.refl _) (Eq.refl _)
theorem hop_buildSlice {ty:TypeId} {K:D→Option Ob→Prop} {uo:Option Ob} (t:TypeId) (n:Nat) (ps:Array (Nat × Operand)):hop P f S uo ty (.buildSlice t n ps) K=dquiet P f S ty (.buildSlice t n ps) (hAt K uo):=Eq.trans (Eq.refl _) (Eq.refl _)
theorem hop_move {ty:TypeId} {K:D→Option Ob→Prop} {uo:Option Ob} (x:Operand):hop P f S uo ty (.move x) K=dquiet P f S ty (.move x) (hAt K uo):=Eq.trans (Eq.refl _) (Eq.refl _)
theorem hop_assign {ty:TypeId} {K:D→Option Ob→Prop} {uo:Option Ob} (x:Operand):hop P f S uo ty (.assign x) K=dquiet P f S ty (.assign x) (hAt K uo):=Eq.trans (Eq.refl _) (Eq.refl _)
theorem hop_pick {ty:TypeId} {K:D→Option Ob→Prop} {uo:Option Ob} (c x y:Operand):hop P f S uo ty (.pick c x y) K=dquiet P f S ty (.pick c x y) (hAt K uo):=Eq.trans (Eq.refl _) (Eq.refl _)
theorem hop_load {ty:TypeId} {K:D→Option Ob→Prop} {uo:Option Ob} (t:TypeId) (x:Operand):hop P f S uo ty (.load t x) K=dquiet P f S ty (.load t x) (hAt K uo):=Eq.trans (Eq.refl _) (Eq.refl _)
theorem hop_fieldAddr {ty:TypeId} {K:D→Option Ob→Prop} {uo:Option Ob} (t:TypeId) (x:Operand) (i:Nat):hop P f S uo ty (.fieldAddr t x i) K=dquiet P f S ty (.fieldAddr t x i) (hAt K uo):=Eq.trans (Eq.refl _) (Eq.refl _)
theorem hop_indexAddr {ty:TypeId} {K:D→Option Ob→Prop} {uo:Option Ob} (t:TypeId) (x i:Operand):hop P f S uo ty (.indexAddr t x i) K=dquiet P f S ty (.indexAddr t x i) (hAt K uo):=Eq.trans (Eq.refl _) (Eq.refl _)
theorem hop_extract {ty:TypeId} {K:D→Option Ob→Prop} {uo:Option Ob} (x:Operand) (i:Nat):hop P f S uo ty (.extract x i) K=dquiet P f S ty (.extract x i) (hAt K uo):=Eq.trans (Eq.refl _) (Eq.refl _)
theorem hop_nilCheck {ty:TypeId} {K:D→Option Ob→Prop} {uo:Option Ob} (x:Operand):hop P f S uo ty (.nilCheck x) K=dquiet P f S ty (.nilCheck x) (hAt K uo):=Eq.trans (Eq.refl _) (Eq.refl _)
theorem hop_slice {ty:TypeId} {K:D→Option Ob→Prop} {uo:Option Ob} (t:TypeId) (x:Operand) (lo hi mx:Option Operand):hop P f S uo ty (.slice t x lo hi mx) K=dquiet P f S ty (.slice t x lo hi mx) (hAt K uo):=Eq.trans (Eq.refl _) (Eq.refl _)
theorem hop_binOp {ty:TypeId} {K:D→Option Ob→Prop} {uo:Option Ob} (op:BinOp) (t:TypeId) (x y:Operand) (u:TypeId):hop P f S uo ty (.binOp op t x y u) K=dquiet P f S ty (.binOp op t x y u) (hAt K uo):=Eq.trans (Eq.refl _) (Eq.refl _)
theorem hop_unOp {ty:TypeId} {K:D→Option Ob→Prop} {uo:Option Ob} (op:UnOp) (t:TypeId) (x:Operand):hop P f S uo ty (.unOp op t x) K=dquiet P f S ty (.unOp op t x) (hAt K uo):=Eq.trans (Eq.refl _) (Eq.refl _)
section
variable {y n : Prop} {ty : TypeId} {op : Op} {K : D → Prop} {ops : Array Oper} {R : Fm → St → Prop} {r : List Oper} {dst : Option Tmp} {u : Option Ob}
theorem hg_tt:dguard (.v (.bool true)) true (dquietF P f S ty op K) n=dquiet P f S ty op K:=by simp [dguard,dquietF]
theorem hg_ff:dguard (.v (.bool false)) false (dquietF P f S ty op K) n=dquiet P f S ty op K:=by simp [dguard,dquietF]
theorem hg_tf:dguard (.v (.bool true)) false y (hskip P ops S R r f dst u)=dhead P ops S R r (put f dst undefD) u:=by simp [dguard,hskip]
theorem hg_ft:dguard (.v (.bool false)) true y (hskip P ops S R r f dst u)=dhead P ops S R r (put f dst undefD) u:=by simp [dguard,hskip]
theorem hg_no (want:Bool):dguard undefD want y (hskip P ops S R r f dst u)=dhead P ops S R r (put f dst undefD) u:=Eq.trans (Eq.refl _) (Eq.refl _)
end
def dqcall (P:Program) (S:St) (x:D) (args:List D) (K:D→Prop):Prop:=match x with
 | .fn (.func g) fs cs=>∃ d,DSt P g (fs++args++cs) S d∧K d
 | _=>False
def dqgo (P:Program) (S:St) (g:FuncId) (args:List D) (K:D→Prop):Prop:=∃ d,DSt P g args S d∧K d
theorem dqcall_fn (g:FuncId) (fs args cs:List D) (K:D→Prop):dqcall P S (.fn (.func g) fs cs) args K=dqgo P S g (fs++args++cs) K:=Eq.trans (Eq.refl _) (Eq.refl _)
theorem dqgo_mk {g:FuncId} {args:List D} {K:D→Prop} {d:D} (h:DPure P g args d) (k:K d):dqgo P S g args K:=⟨d,h.st,k⟩
theorem dqgo_at {g:FuncId} {args:List D} {K:D→Prop} {d:D} (h:DSt P g args S d) (k:K d):dqgo P S g args K:=⟨d,h,k⟩
theorem dq_call {ty:TypeId} {K:D→Prop} (x:Operand) (args:List Operand) (ts:Array TypeId):dquiet P f S ty (.call ⟨.value x,List.toArray args,ts⟩) K=dqcall P S (ev f x) (args.map (ev f)) K:=Eq.trans (Eq.refl _) (Eq.refl _)
theorem dq_append {ty:TypeId} {K:D→Prop} (args:Array Operand) (ts:Array TypeId):dquiet P f S ty (.call ⟨.builtin .append,args,ts⟩) K=onVal2 (dnew P f S (.call ⟨.builtin .append,args,ts⟩)) (dval P f S ty (.call ⟨.builtin .append,args,ts⟩)) K:=Eq.trans (Eq.refl _) (Eq.refl _)
theorem onVal2_some (c:Prop) (d:D) (o:Option (Prop × D)) (K:D→Prop):onVal2 (some (c,d)) o K=(c∧K d):=Eq.trans (Eq.refl _) (Eq.refl _)
theorem dq_buildSlice {ty:TypeId} {K:D→Prop} (t:TypeId) (n:Nat) (ps:Array (Nat × Operand)):dquiet P f S ty (.buildSlice t n ps) K=onVal2 (dnew P f S (.buildSlice t n ps)) (dval P f S ty (.buildSlice t n ps)) K:=Eq.trans (Eq.refl _) (Eq.refl _)
theorem dq_build {ty:TypeId} {K:D→Prop} (t:TypeId) (ps:Array (Nat × Operand)):dquiet P f S ty (.build t ps) K=onVal2 (dnew P f S (.build t ps)) (dval P f S ty (.build t ps)) K:=Eq.trans (Eq.refl _) (Eq.refl _)
theorem dq_move {ty:TypeId} {K:D→Prop} (x:Operand):dquiet P f S ty (.move x) K=onVal (dval P f S ty (.move x)) K:=Eq.trans (Eq.refl _) (Eq.refl _)
theorem dq_assign {ty:TypeId} {K:D→Prop} (x:Operand):dquiet P f S ty (.assign x) K=onVal (dval P f S ty (.assign x)) K:=Eq.trans (Eq.refl _) (Eq.refl _)
theorem dq_pick {ty:TypeId} {K:D→Prop} (c x y:Operand):dquiet P f S ty (.pick c x y) K=onVal (dval P f S ty (.pick c x y)) K:=Eq.trans (Eq.refl _) (Eq.refl _)
theorem dq_load {ty:TypeId} {K:D→Prop} (t:TypeId) (x:Operand):dquiet P f S ty (.load t x) K=onVal (dval P f S ty (.load t x)) K:=Eq.trans (Eq.refl _) (Eq.refl _)
theorem dq_fieldAddr {ty:TypeId} {K:D→Prop} (t:TypeId) (x:Operand) (i:Nat):dquiet P f S ty (.fieldAddr t x i) K=onVal (dval P f S ty (.fieldAddr t x i)) K:=Eq.trans (Eq.refl _) (Eq.refl _)
theorem dq_indexAddr {ty:TypeId} {K:D→Prop} (t:TypeId) (x i:Operand):dquiet P f S ty (.indexAddr t x i) K=onVal (dval P f S ty (.indexAddr t x i)) K:=Eq.trans (Eq.refl _) (Eq.refl _)
theorem dq_extract {ty:TypeId} {K:D→Prop} (x:Operand) (i:Nat):dquiet P f S ty (.extract x i) K=onVal (dval P f S ty (.extract x i)) K:=Eq.trans (Eq.refl _) (Eq.refl _)
theorem dq_nilCheck {ty:TypeId} {K:D→Prop} (x:Operand):dquiet P f S ty (.nilCheck x) K=onVal (dval P f S ty (.nilCheck x)) K:=Eq.trans (Eq.refl _) (Eq.refl _)
theorem dq_slice {ty:TypeId} {K:D→Prop} (t:TypeId) (x:Operand) (lo hi mx:Option Operand):dquiet P f S ty (.slice t x lo hi mx) K=onVal (dval P f S ty (.slice t x lo hi mx)) K:=Eq.trans (Eq.refl _) (Eq.refl _)
theorem dq_binOp {ty:TypeId} {K:D→Prop} (op:BinOp) (t:TypeId) (x y:Operand) (u:TypeId):dquiet P f S ty (.binOp op t x y u) K=onVal (dval P f S ty (.binOp op t x y u)) K:=Eq.trans (Eq.refl _) (Eq.refl _)
theorem dq_unOp {ty:TypeId} {K:D→Prop} (op:UnOp) (t:TypeId) (x:Operand):dquiet P f S ty (.unOp op t x) K=onVal (dval P f S ty (.unOp op t x)) K:=Eq.trans (Eq.refl _) (Eq.refl _)
theorem dq_b_len {ty:TypeId} {K:D→Prop} (args:Array Operand) (ts:Array TypeId):dquiet P f S ty (.call ⟨.builtin .len,args,ts⟩) K=onVal (dval P f S ty (.call ⟨.builtin .len,args,ts⟩)) K:=Eq.trans (Eq.refl _) (Eq.refl _)
end
theorem width_len (d:D):d.width=d.cells.length:=Eq.trans (Eq.refl _) (Eq.refl _)
theorem cells_agg_ (cs:List D):(D.agg cs).cells=cs:=Eq.trans (Eq.refl _) (Eq.refl _)
theorem cells_v_ (x:Value):(D.v x).cells=[D.v x]:=Eq.trans (Eq.refl _) (Eq.refl _)
theorem cells_loc_ (k o:Nat):(D.loc k o).cells=[D.loc k o]:=Eq.trans (Eq.refl _) (Eq.refl _)
theorem okCell_loc_ (k o:Nat):(D.loc k o).okCell=true:=Eq.trans (Eq.refl _) (Eq.refl _)
theorem cells_sl_ (o:Own) (es:List D):(D.sl o es).cells=[D.sl o es]:=Eq.trans (Eq.refl _) (Eq.refl _)
theorem okCell_sl_ (o:Own) (es:List D):(D.sl o es).okCell=true:=Eq.trans (Eq.refl _) (Eq.refl _)
theorem okCell_agg_ (cs:List D):(D.agg cs).okCell=true:=Eq.trans (Eq.refl _) (Eq.refl _)
theorem okCell_bool_ (b:Bool):(D.v (.bool b)).okCell=true:=Eq.trans (Eq.refl _) (Eq.refl _)
theorem okCell_int_ (k:IntKind) (n:Int):(D.v (.int k n)).okCell=true:=Eq.trans (Eq.refl _) (Eq.refl _)
theorem okCell_string_ (s:ByteArray):(D.v (.string s)).okCell=true:=Eq.trans (Eq.refl _) (Eq.refl _)
theorem okCell_map_ (r:Option Nat):(D.v (.map r)).okCell=true:=Eq.trans (Eq.refl _) (Eq.refl _)
attribute [go_sem_proc] Nat.reduceMul Nat.reduceBEq Nat.reduceAdd Nat.reduceLeDiff Nat.reduceEqDiff Nat.reduceLT
attribute [go_sem_proc ↓] reduceIte
attribute [go_sem] width_len cells_agg_ cells_v_ cells_loc_ okCell_loc_ cells_sl_ okCell_sl_ okCell_agg_ okCell_bool_ okCell_int_ okCell_string_ okCell_map_
attribute [go_sem] hnext_eq hnextN_eq hAt_eq after_none hop_call hop_append hop_buildSlice hop_move hop_assign hop_pick hop_load hop_fieldAddr hop_indexAddr hop_extract hop_nilCheck hop_slice hop_binOp hop_unOp dtail_eq dhead_nil dhead_plain dhead_guard hg_tt hg_ff hg_tf hg_ft hg_no dqcall_fn dq_call dq_append onVal2_some onVal_some dq_buildSlice dq_build dq_move dq_assign dq_pick dq_load dq_fieldAddr dq_indexAddr dq_extract dq_nilCheck dq_slice dq_binOp dq_unOp dq_b_len
attribute [go_sem] bin_leql bin_ieql bin_ineq orD_some orD_none
attribute [go_sem] dops_p_move dops_g_move dops_p_assign dops_pb_assign dops_p_pick dops_g_pick dops_p_alloc dops_p_box dops_p_build dops_g_build dops_pb_build dops_p_load dops_g_load dops_p_store dops_p_nilCheck dops_g_nilCheck dops_p_binOp dops_g_binOp dops_p_unOp dops_g_unOp dops_p_convert dops_p_makeInterface dops_p_makeFunc dops_g_makeFunc dops_p_makeMap dops_p_makeSlice dops_p_slice dops_p_fieldAddr dops_g_fieldAddr dops_pb_fieldAddr dops_p_indexAddr dops_g_indexAddr dops_p_index dops_p_mapUpdate dops_p_extract dops_p_call dops_g_call dops_pb_call
attribute [go_sem] slOwn_some slOwn_full slOwn_no decide_true decide_false pureRun_pure Bool.not_true Bool.not_false Bool.true_or Bool.false_or Bool.or_true Bool.or_false Bool.true_and Bool.false_and Bool.and_true Bool.and_false dg_tt dg_ff dg_tf dg_ft dg_no dIf_t dIf_f slotN_int slotN_succ List.length_map Int.toNat_natCast dwp_skip dwp_exit dwp_ret dwp_seq dwp_block dwp_loop dwp_cond dwp_region dwp_draw then_normal then_exit then_ret block_normal block_ret block_eq dnext_eq gtmp_zero gtmp_succ dguardT_some dops_nil onValS_some dop_move dop_assign dop_pick dop_load dop_fieldAddr dop_indexAddr dop_index dop_extract dop_makeFunc dop_makeInterface dop_nilCheck dop_slice dop_binOp dop_unOp dop_convert dop_b_len dop_b_cap dop_buildSlice dop_build dop_alloc dop_box dop_store dop_call dop_append dop_copy dop_clear dop_makeSlice dop_lookup dop_invoke winOff_zero dcall_fn put_eq put_ne put_none argF_zero argF_succ ofV_int ofV_bool ofV_string ofV_nil ofV_iface ofV_func ofV_ptr bin_add bin_sub bin_eql bin_neq bin_lss bin_leq bin_gtr bin_geq bin_seql bin_sneq bin_sgtr bin_sleq add_next set_next grow_next grow_full_ob grow_row_ob pfin_ret pfin_ret2 dstore dappend dval dnew ev rdOk rdVal splice true_and and_true cond_true cond_false List.map_cons List.map_nil List.length_cons List.length_nil List.take_succ_cons List.take_zero List.drop_succ_cons List.drop_zero List.getD_cons_zero List.getD_cons_succ List.cons_append List.nil_append List.append_nil ne_eq not_false_eq_true Nat.zero_add Nat.add_zero Option.map_some
section
theorem fillD_nil (pl:Nat→Option (Nat × Nat)) (cs:List D):fillD pl cs []=(True,cs):=by unfold fillD;exact Eq.trans (Eq.refl _) (Eq.refl _)
def fillS (o:Option (Nat × Nat)) (pl:Nat→Option (Nat × Nat)) (cs:List D) (d:D) (r:List (Nat × D)):Prop × List D:=match o with
 | some (off,n)=>(d.okCell=true∧d.width=n∧off+n≤cs.length∧(fillD pl (splice cs off d.cells) r).1,(fillD pl (splice cs off d.cells) r).2)
 | none=>(False,cs)
theorem fillD_cons (pl:Nat→Option (Nat × Nat)) (cs:List D) (i:Nat) (d:D) (r:List (Nat × D)):fillD pl cs ((i,d)::r)=fillS (pl i) pl cs d r:=by
 rw [fillD];unfold fillS;cases pl i <;> rfl
theorem fillS_some (off n:Nat) (pl:Nat→Option (Nat × Nat)) (cs:List D) (d:D) (r:List (Nat × D)):fillS (some (off,n)) pl cs d r=(d.okCell=true∧d.width=n∧off+n≤cs.length∧(fillD pl (splice cs off d.cells) r).1,(fillD pl (splice cs off d.cells) r).2):=Eq.trans (Eq.refl _) (Eq.refl _)
attribute [go_sem] fillD_nil fillD_cons fillS_some
def dcellR (P:Program) (S':St) (t:TypeId) (x:D) (K:D→Prop):Prop:=match x with
 | .loc k off=>match S'.ob k with
  | some (.box _ cs)=>rdOk P t cs off∧K (rdVal P t cs off)
  | _=>False
 | _=>False
theorem onVal_cell {P:Program} {f:Fm} {S':St} (x:Tmp) (t:TypeId) (K:D→Prop):onVal (dres P f S' (.cell x t)) K=dcellR P S' t (f x) K:=by
 show onVal (match f x with | .loc k off=>(match S'.ob k with | some (.box _ cs)=>some (rdOk P t cs off,rdVal P t cs off) | _=>none) | _=>none) K=_
 unfold dcellR
 cases f x with
 | loc k off =>
  show onVal (match S'.ob k with | some (.box _ cs)=>some (rdOk P t cs off,rdVal P t cs off) | _=>none) K=(match S'.ob k with | some (.box _ cs)=>rdOk P t cs off∧K (rdVal P t cs off) | _=>False)
  cases S'.ob k with
  | none=>rfl
  | some o=>cases o <;> rfl
 | _=>rfl
theorem pfin_cell_ret {P:Program} {S:St} {f:Fm} (x:Tmp) (t:TypeId) (S':St) (d:D):DQ.pfin P [.cell x t] S d .ret f S'=dcellR P S' t (f x) (fun r=>PFin S S' r d):=onVal_cell x t _
attribute [go_sem] pfin_cell_ret dcellR
end
end Go.Proofs.YtogbklnkpjjkoaaGreatDoor
