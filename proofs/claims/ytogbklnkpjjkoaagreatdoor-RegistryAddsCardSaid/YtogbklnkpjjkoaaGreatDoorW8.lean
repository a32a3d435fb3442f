/- Texts of a proof, part 8. Conditions: none. -/
import Derived.Test.YtogbklnkpjjkoaaGreatDoorW7
import Derived.RangeFuncLeaves
import Derived.RangeFuncRecord
import Derived.RangeFuncSeq
import Derived.OrdersIn
import Derived.TacticsIn
import Derived.Test.YtogbklnkpjjkoaaGreatDoorProg
import Derived.Shelf.Abstract
import Derived.WalkKit
import Derived.OwnWalkIn
import Derived.TacticsInMore
import Derived.LoopNIn
import Derived.LoopIn
import Derived.BigRegionIn
import Derived.Ground.SlgnProg
import Derived.Shelf.SortG.Plain
set_option linter.unusedVariables false
set_option linter.unusedSimpArgs false
namespace Go.Proofs.YtogbklnkpjjkoaaGreatDoor
open Go.RowKit

/-! ### What is shown of code stands in a round's frame too -/
def noDefer (o:Oper):Bool:=match o.op with
 | .defer _=>false
 | _=>true
theorem noDefer_spec {o:Oper} (h:noDefer o=true):∀ c,o.op ≠ .defer c:=fun c e=>by rw [noDefer,e] at h;cases h
def plainC:Code→Bool
 | .region _ ops _=>ops.all noDefer
 | .seq x y=>plainC x && plainC y
 | .cond _ x y=>plainC x && plainC y
 | .block _ c=>plainC c
 | .skip=>true
 | .label _=>true
 | .exit _=>true
 | _=>false
section
variable {P : Program} {l n : Nat} {Q : Exit → Act → World → Prop} {ops : Array Oper} {md : Region.Mode}
theorem rowsIn_wide {row:String} {args:Array Value} {w:World} {R:Value→World→Prop} (h:Rows P row args w R):RowsIn (Fence.wide.inRound l) n P row args w R :=
 fun c cs _=>let ⟨v,w',r,s⟩:=h c cs;⟨v,w',r,stepsIn_wide.2 s⟩
theorem callsIn_round {f:FuncId} {args:Array Value} {w:World} {R:Ending→World→Prop} (h:Calls P f args w R):CallsIn (Fence.wide.inRound l) n P f args w R:=(callsIn_wide (n:=n)).2 h
theorem uponIn_of {o:Oper} {a:Act} {next:Act→World→Prop} {r:Result Next} (h:o.upon P a next Q r):o.uponIn (Fence.wide.inRound l) n P a next Q r:=by
 cases r with
 | ok x w' =>
  cases x <;> simp only [Oper.upon,Oper.uponIn] at h ⊢ <;>
   first
    | exact h
    | exact ⟨(fun e=>by cases e),callsIn_round (h.mono fun e w'' he=>by cases e <;> exact he)⟩
    | exact ⟨(fun e=>by cases e),rowsIn_wide h⟩
 | halt x w'=>cases x <;> simp only [Oper.upon,Oper.uponIn] at h ⊢ <;> exact h
theorem opIn_of {o:Oper} {a:Act} {w:World} {next:Act→World→Prop} (hd:noDefer o=true) (hQ:¬ LetsOut Q) (h:o.wp P a w next Q∨(o.asks P a w∧LetsOut Q)):o.wpIn (Fence.wide.inRound l) n P a w next Q:=by
 rcases h with h | h
 ·refine ⟨fun _ _=>trivial,?_⟩
  rw [Oper.semAt_eq _ _ _ (noDefer_spec hd)]
  exact uponIn_of h
 ·exact absurd h.2 hQ
theorem anyIn_of (hd:∀ (j:Nat) (o:Oper),ops[j]? = some o→noDefer o=true) (hQ:¬ LetsOut Q):∀ (fuel:Nat) (L:Array Bool) (a:Act) (w:World),wpAny P md ops Q fuel L a w→wpAnyIn (Fence.wide.inRound l) n P md ops Q fuel L a w
 | 0,_,_,_,h=>h
 | fuel+1,L,a,w,h=>by
  refine ⟨h.1,fun i hi=>?_⟩
  have h2:=h.2 i hi
  have ih:=fun a w=>anyIn_of hd hQ fuel (L.setIfInBounds i true) a w
  unfold wpOp at h2
  unfold wpOpIn
  cases ho:ops[i]? with
  | none=>rw [ho] at h2;exact ih _ _ h2
  | some o =>
   rw [ho] at h2
   simp only at h2 ⊢
   split
   ·rename_i hw
    rw [if_pos hw] at h2
    exact opIn_of (hd i o ho) hQ (h2.imp (Oper.wp_mono ih) id)
   ·rename_i hw
    rw [if_neg hw] at h2
    exact ⟨fun _ _=>trivial,ih _ _ h2⟩
theorem listIn_of (hQ:¬ LetsOut Q):∀ (r:List Oper) (a:Act) (w:World),(∀ o∈r,noDefer o=true)→wpList P ops Q r a w→wpListIn (Fence.wide.inRound l) n P ops Q r a w
 | [],_,_,_,h=>h
 | o::r,a,w,hd,h=>by
  have ih:=fun a w=>listIn_of hQ r a w fun o ho=>hd o (List.mem_cons_of_mem _ ho)
  unfold wpList at h
  unfold wpListIn
  split
  ·rename_i hw
   rw [if_pos hw] at h
   exact opIn_of (hd o (List.mem_cons_self ..)) hQ (h.imp (Oper.wp_mono ih) id)
  ·rename_i hw
   rw [if_neg hw] at h
   exact ⟨fun _ _=>trivial,ih _ _ h⟩
theorem any_whole {l:List Oper} (n:Nat) {Q:Exit→Act→World→Prop} {a:Act} {w:World} (hB:heldTailB l n=true)
  (h:wpAny P .any (l.take n).toArray (Exit.then (fun a w=>wpList P l.toArray Q (l.drop n) a w) Q) (l.take n).toArray.size (Array.replicate (l.take n).toArray.size false) a w):wpAny P .any l.toArray Q l.toArray.size (Array.replicate l.toArray.size false) a w:=by
 simp only [heldTailB,Bool.and_eq_true,decide_eq_true_eq] at hB
 obtain ⟨⟨⟨⟨hn,hs⟩,hc⟩,hb⟩,hq⟩:=hB
 have htl:(l.take n).toArray.size=n:=by simp;omega
 rw [htl] at h
 have e:Array.replicate l.toArray.size false=Array.replicate n false++Array.replicate (l.length - n) false:=by
  rw [Array.replicate_append_replicate];congr 1;simp;omega
 have inv0:HeadInv .any l.toArray n (Array.replicate n false++Array.replicate (l.length - n) false):=by
  rw [← e]
  exact ⟨by simp,fun j oj _ hl=>(by rw [getD_replicate_false] at hl;cases hl),fun t _ ht=>getD_in (by simpa using ht) (getD_replicate_false _ _)⟩
 have:=wpAny_tail hn hs hc hb hq n (Array.replicate n false) a w inv0 (by simp) h
 rw [e]
 rw [show n+(l.length - n)=l.toArray.size by simp;omega] at this
 exact this
end
section
variable {P : Program} {base : Nat} {S : St} {η : Names} {w : World} {f : Fm} {a : Act}
theorem ddraw_any_sound {l:List Oper} {Q:Fm→St→Prop} {Q':Exit→Act→World→Prop} (hok:∀ o∈l,operOk a.tmps.size l.toArray o=true) (hM:Mem P base S η w) (hf:RepF P w η (Fix P S η) f a) (h:ddraw P l Q f S)
  (hq:∀ f' S' η' w' a',Q f' S'→Goes P base S η w S' η' w'→RepF P w' η' (Fix P S' η') f' a'→a'.tmps.size=a.tmps.size→a'.defers=a.defers→Q' .normal a' w'):wpAny P .any l.toArray Q' l.toArray.size (Array.replicate l.toArray.size false) a w.drew:=by
 have hokn:∀ n,∀ (j:Nat) (o:Oper),(l.take n).toArray[j]? = some o→operOk a.tmps.size (l.take n).toArray o=true:=fun n j o ho=>operOk_take (hok o (by
  have:=List.mem_of_getElem? (show (l.take n)[j]? = some o by simpa using ho)
  exact List.mem_of_mem_take this))
 have G0:=goes_drew hM
 rcases h with ⟨n,hn,hh⟩ | ⟨Zs,n,hZ,hn,hh⟩
 rotate_left
 ·simp only [Bool.or_eq_true,beq_iff_eq] at hn
  rcases hn with hn | hn
  ·have hl:l.take n=l:=by rw [hn,List.take_length]
   have hd:l.drop n=[]:=by rw [hn,List.drop_length]
   have hokl:=hokn n
   rw [hl] at hh hokl
   refine sAny_sound (w:=w.drew) hokl l.toArray.size _ hZ G0.mem (G0.repF hf) rfl hh fun f' S' η' w' a' g1 g2 g3 g4 g5=>?_
   rw [hd] at g1
   exact hq f' S' η' w' a' g1 (G0.trans g2) g3 g4 g5
  ·refine any_whole n hn ?_
   have:=sAny_sound (Q':=Exit.then (fun a w=>wpList P l.toArray Q' (l.drop n) a w) Q') (hokn n) (l.take n).toArray.size (Array.replicate (l.take n).toArray.size false) hZ G0.mem (G0.repF hf) rfl hh fun f' S1 η' w' a' g1 g2 g3 g4 g5=>by
    refine dops_sound (l.drop n) (fun o ho=>by rw [g4];exact hok o (List.mem_of_mem_drop ho)) g2.mem g3 g1 fun f'' S'' η'' w'' a'' k1 k2 k3 k4 k5=>?_
    exact hq f'' S'' η'' w'' a'' k1 ((G0.trans g2).trans k2) k3 (by rw [k4,g4]) (by rw [k5,g5])
   exact this
 simp only [drawOk,Bool.and_eq_true,Bool.or_eq_true,beq_iff_eq] at hn
 obtain ⟨hlex,hn⟩:=hn
 simp only [Region.lexB,Bool.and_eq_true] at hlex
 have hany:=hAny_lex (l.take n) 0 (Array.replicate (l.take n).toArray.size false) f none (by simp) (by simpa using hlex.2) hh
 have hok':=hokn n
 rcases hn with hn | hn
 ·subst hn
  rw [List.take_length] at hany hok'
  refine wpAny_of_head (u:=none) (w:=w.drew) hM.fresh hok' l.toArray.size _ G0.mem (G0.repF hf) rfl (by simpa using hany) fun f' u' η' w' a' g1 g2 g3 g4 g5=>?_
  have g1':Q f' (after S u'):=by simpa [dops,dops2] using g1
  exact hq f' (after S u') η' w' a' g1' (G0.trans g2) g3 g4 g5
 ·refine any_whole n hn ?_
  have:=wpAny_of_head (u:=none) (Q':=Exit.then (fun a w=>wpList P l.toArray Q' (l.drop n) a w) Q') hM.fresh hok' (l.take n).toArray.size (Array.replicate (l.take n).toArray.size false) G0.mem (G0.repF hf) rfl (by simpa using hany) fun f' u' η' w' a' g1 g2 g3 g4 g5=>by
   refine dops_sound (l.drop n) (fun o ho=>by rw [g4];exact hok o (List.mem_of_mem_drop ho)) g2.mem g3 g1 fun f'' S'' η'' w'' a'' k1 k2 k3 k4 k5=>?_
   exact hq f'' S'' η'' w'' a'' k1 ((G0.trans g2).trans k2) k3 (by rw [k4,g4]) (by rw [k5,g5])
  exact this
theorem dwpN_sound (hm:P.follows .mixedOrders=true) {l n:Nat}:∀ (c:Code) {Q:DQ} {S:St} {η:Names} {w:World} {f:Fm} {a:Act} {Q':Exit→Act→World→Prop},plainC c=true→codeOk a.tmps.size c=true→Mem P base S η w→RepF P w η (Fix P S η) f a→dwp P c Q f S→¬ LetsOut Q' →
  (∀ e f' S' η' w' a',Q e f' S'→Goes P base S η w S' η' w'→RepF P w' η' (Fix P S' η') f' a'→a'.tmps.size=a.tmps.size→a'.defers=a.defers→Q' e.up a' w')→c.wpIn (Fence.wide.inRound l) n P Q' a w:=by
 intro c
 induction c with
 | skip=>intro Q S η w f a Q' _ _ hM hf h _ hq;exact wpIn_skip (hq .normal f S η w a h (Goes.refl hM) hf rfl rfl)
 | label l=>intro Q S η w f a Q' _ _ hM hf h _ hq;exact wpIn_label (hq .normal f S η w a h (Goes.refl hM) hf rfl rfl)
 | exit id=>intro Q S η w f a Q' _ _ hM hf h _ hq;exact wpIn_exit (hq (.exit id) f S η w a h (Goes.refl hM) hf rfl rfl)
 | region id ops draw =>
  intro Q S η w f a Q' hp hok hM hf h hQ hq
  have hok':∀ o∈ops.toList,operOk a.tmps.size ops o=true:=fun o ho=>Array.all_eq_true_iff_forall_mem.1 hok o (by simpa using ho)
  have hd:∀ o∈ops.toList,noDefer o=true:=fun o ho=>Array.all_eq_true_iff_forall_mem.1 hp o (by simpa using ho)
  cases draw with
  | false=>exact wpIn_region_list (listIn_of hQ _ _ _ hd (dops_sound ops.toList hok' hM hf h fun f' S' η' w' a' k1 k2 k3 k4 k5=>hq .normal f' S' η' w' a' k1 k2 k3 k4 k5))
  | true =>
   have:=ddraw_any_sound (Q':=Q') (l:=ops.toList) hok' hM hf h fun f' S' η' w' a' k1 k2 k3 k4 k5=>hq .normal f' S' η' w' a' k1 k2 k3 k4 k5
   exact wpIn_region_any hm (anyIn_of (fun j o ho=>hd o (List.mem_of_getElem? (by simpa using ho))) hQ _ _ _ _ this)
 | seq x y ihx ihy =>
  intro Q S η w f a Q' hp hok hM hf h hQ hq
  simp only [codeOk,plainC,Bool.and_eq_true] at hok hp
  refine wpIn_seq (ihx hp.1 hok.1 hM hf h (fun ⟨a,w,h⟩=>hQ ⟨a,w,h⟩) fun e f' S' η' w' a' k1 k2 k3 k4 k5=>?_)
  cases e with
  | normal =>
   exact ihy hp.2 (by rw [k4];exact hok.2) k2.mem k3 k1 hQ fun e f'' S'' η'' w'' a'' g1 g2 g3 g4 g5=>hq e f'' S'' η'' w'' a'' g1 (k2.trans g2) g3 (by rw [g4,k4]) (by rw [g5,k5])
  | exit i=>exact hq (.exit i) f' S' η' w' a' k1 k2 k3 k4 k5
  | ret=>exact hq .ret f' S' η' w' a' k1 k2 k3 k4 k5
 | cond g x y ihx ihy =>
  intro Q S η w f a Q' hp hok hM hf h hQ hq
  simp only [codeOk,plainC,Bool.and_eq_true] at hok hp
  have hg:=hf.ev hok.1.1
  unfold dwp at h
  split at h
  ·rename_i b hb
   rw [hb] at hg
   simp only [Rep] at hg
   refine wpIn_cond (t:=b) hg ?_
   cases b with
   | true=>exact ihx hp.1 hok.1.2 hM hf (h.1 rfl) hQ hq
   | false=>exact ihy hp.2 hok.2 hM hf (h.2 rfl) hQ hq
  ·exact h.elim
 | block id c ih =>
  intro Q S η w f a Q' hp hok hM hf h hQ hq
  refine wpIn_block (ih hp hok hM hf h (fun ⟨a,w,h⟩=>hQ ⟨a,w,h⟩) fun e f' S' η' w' a' k1 k2 k3 k4 k5=>?_)
  cases e with
  | normal=>exact hq .normal f' S' η' w' a' k1 k2 k3 k4 k5
  | ret=>exact hq .ret f' S' η' w' a' k1 k2 k3 k4 k5
  | exit i =>
   simp only [DQ.block] at k1
   simp only [DX.up,Exit.inBlock]
   cases hb:Nat.beq i id with
   | true =>
    rw [if_pos (Nat.eq_of_beq_eq_true hb)]
    rw [hb] at k1
    exact hq .normal f' S' η' w' a' k1 k2 k3 k4 k5
   | false =>
    rw [if_neg (by intro e;rw [e,Nat.beq_refl] at hb;cases hb)]
    rw [hb] at k1
    exact hq (.exit i) f' S' η' w' a' k1 k2 k3 k4 k5
 | loop c ih=>intro Q S η w f a Q' hp;cases hp
 | ret=>intro Q S η w f a Q' hp;cases hp
 | rangeFunc x ps aa b _ _=>intro Q S η w f a Q' hp;cases hp
 | scope c _=>intro Q S η w f a Q' hp;cases hp
 | goto l=>intro Q S η w f a Q' hp;cases hp
 | refuse s=>intro Q S η w f a Q' hp;cases hp
end

theorem loopO_cell {W:World} {l:Nat} {o:Obj} (h:W.heap[l]? = some o) (ho:isLoopO o=true) (i:Nat):W.cell? ⟨l,i,none⟩=none:=by
 unfold World.cell?
 rw [h]
 cases o <;> first | rfl | cases ho
theorem put_cell {W:World} {l:Nat} {o o':Obj} (h:W.heap[l]? = some o) (ho:isLoopO o=true) (ho':isLoopO o'=true) (b i:Nat):(W.putObj l o').cell? ⟨b,i,none⟩=W.cell? ⟨b,i,none⟩:=by
 by_cases e:b=l
 ·subst e
  rw [loopO_cell h ho,loopO_cell (World.putObj_heap_same (Array.getElem?_eq_some_iff.1 h).1) ho']
 ·exact World.cell?_of_block (World.putObj_heap_other e)
theorem put_cells {W:World} {l:Nat} {o o':Obj} (h:W.heap[l]? = some o) (ho:isLoopO o=true) {b:Nat} {c:Array Value} {t:TypeId} {fr:Nat × Nat} (hc:W.heap[b]? = some (.cells c t fr)):(W.putObj l o').heap[b]? = some (.cells c t fr):=by
 have e:b ≠ l:=fun e=>by subst e;rw [h] at hc;cases hc;cases ho
 exact (World.putObj_heap_other e).trans hc
section
variable {P : Program} {base : Nat} {S T : St} {η η' : Names} {w W : World}
theorem goes_put (hG:Goes P base S η w T η' W) {l:Nat} {o o':Obj} (h:W.heap[l]? = some o) (ho:isLoopO o=true) (ho':isLoopO o'=true) (hl:w.heap.size≤l) (hb:base≤w.heap.size):Goes P base S η w T η' (W.putObj l o'):=by
 have hM:=hG.mem
 have K:Keep (fun _=>True) W η' (Fix P T η') (W.putObj l o') η' (Fix P T η'):=⟨by simp,fun b i _ hx=>⟨hx,put_cell h ho ho' b i⟩,fun _ _ _ hx=>hx,fun b c e hx=>⟨c,put_cells h ho hx,rfl⟩⟩
 have hB:Below base W (W.putObj l o'):=⟨rfl,rfl,rfl,by simp,fun k hk=>World.putObj_heap_other (by omega)⟩
 refine ⟨⟨by simpa using hM.base_,hM.dead,hM.fresh,hM.live,hM.inj,fun k b hk=>by simpa using hM.in_ k b hk,fun k t cs b h1 h2=>?_,fun k e n b h1 h2=>?_,hM.glob.below hB,fun k b m hk=>?_⟩,hG.keep.trans K,hG.below.trans hB,fun hm=>hG.drawn hm,fun k x hk hx=>?_⟩
 ·obtain ⟨vs,k1,k2,k3⟩:=hM.box k t cs b h1 h2
  exact ⟨vs,put_cells h ho k1,RepL.keep K (allL_true _) k2,k3⟩
 ·obtain ⟨cur,k1,k2⟩:=hM.row k e n b h1 h2
  exact ⟨cur,put_cells h ho k1,k2⟩
 ·obtain ⟨k1,es,c,k2,k3⟩:=hM.mp k b m hk
  have e:b ≠ l:=fun e=>by subst e;rw [h] at k2;cases k2;cases ho
  exact ⟨k1,es,c,(World.putObj_heap_other e).trans k2,k3⟩
 ·have hk':=(Array.getElem?_eq_some_iff.1 hk).1
  exact (World.putObj_heap_other (by omega)).trans (hG.loops k x hk hx)
theorem rep_put {l:Nat} {o o':Obj} (h:W.heap[l]? = some o) (ho:isLoopO o=true) (ho':isLoopO o'=true) {d:D} {v:Value} (hr:Rep P W η' (Fix P T η') d v):Rep P (W.putObj l o') η' (Fix P T η') d v :=
 Rep.keep (N:=fun _=>True) ⟨by simp,fun b i _ hx=>⟨hx,put_cell h ho ho' b i⟩,fun _ _ _ hx=>hx,fun b c e hx=>⟨c,put_cells h ho hx,rfl⟩⟩ (D.all_true d) hr
end

def SeqT (P:Program) (gf:FuncId) (lb:Array Value) (N:Nat) (x:Nat→Value) (K:World→Prop):Prop :=
 ∀ (l:Nat) (J:Nat→World→Prop) (W:World),(∀ i W,J i W→K W∧J i W.drew) →
  (∀ i W1,i<N→J i W1→YieldAt Fence.wide 5 P l #[x i] W1 fun e W'=>e=.returned (.bool true)∧J (i+1) W')→J 0 W →
  CallsIn Fence.wide 6 P gf (#[.func (.yield l) #[] #[]]++lb) W fun e W'=>(∃ v,e=.returned v)∧J N W'
def DSeq (P:Program) (gf:FuncId) (caps:List D) (S:St) (N:Nat) (x:Nat→D):Prop :=
 (∀ args w,(callFunc gf args).run P w=.ok (.enter gf args) w) ∧
 ∀ base η w lb,Mem P base S η w→RepL P w η (Fix P S η) caps lb→∃ (K:World→Prop) (y:Nat→Value),(∀ T η' W,Goes P base S η w T η' W→K W)∧(∀ i,i<N→Rep P w η (Fix P S η) (x i) (y i))∧SeqT P gf lb.toArray N y K

def DRange (P:Program) (g:Operand) (p:Tmp) (assign body:Code) (k:Fm→St→Prop) (f:Fm) (S:St):Prop :=
 ∃ (gf:FuncId) (caps:List D) (N:Nat) (x:Nat→D) (I:Nat→St→Prop),ev f g=.fn (.func gf) [] caps∧DSeq P gf caps S N x∧I 0 S ∧
  (∀ i T,i<N→T.WF→I i T→dwp P (.seq assign body) (fun e _ T'=>e=.normal∧I (i+1) T') (put f (some p) (x i)) T)∧∀ T,T.WF→I N T→k f T
def dwpR (P:Program):Code→DQ→Fm→St→Prop
 | .rangeFunc g ps assign body,Q,f,S=>match ps.toList with
  | [p]=>DRange P g p assign body (Q .normal) f S
  | _=>False
 | .seq x y,Q,f,S=>dwpR P x (DQ.then (fun f S=>dwpR P y Q f S) Q) f S
 | .block id c,Q,f,S=>dwpR P c (DQ.block id Q) f S
 | c,Q,f,S=>dwp P c Q f S
def codeR (n:Nat):Code→Bool
 | .rangeFunc g _ assign body=>opnOk n g && plainC assign && plainC body && codeOk n assign && codeOk n body
 | .seq x y=>codeR n x && codeR n y
 | .block _ c=>codeR n c
 | c=>codeOk n c
abbrev markD (D:Nat):Deferred:={ target:=.collected D,args:=#[] }
section
variable {P : Program} {base : Nat} {S : St} {η : Names} {w : World} {f : Fm} {a : Act}
theorem range_sound (hm:P.follows .mixedOrders=true) {g:Operand} {p:Tmp} {assign body:Code} {k:Fm→St→Prop} {Q':Exit→Act→World→Prop} (hok:codeR a.tmps.size (.rangeFunc g #[p] assign body)=true) (hM:Mem P base S η w) (hf:RepF P w η (Fix P S η) f a) (h:DRange P g p assign body k f S)
  (hq:∀ T η' W D,k f T→Goes P base S η w T η' W→w.heap.size≤D→W.heap[D]? = some (.deferred (some []))→Q' .normal { a with defers:=markD D::a.defers } W):(Code.rangeFunc g #[p] assign body).wp P Q' a w:=by
 obtain ⟨gf,caps,N,x,I,hg,⟨eg,hseq⟩,h0,hr,hk⟩:=h
 simp only [codeR,Bool.and_eq_true] at hok
 obtain ⟨⟨⟨⟨hok1,hok2⟩,hok3⟩,hok4⟩,hok5⟩:=hok
 have hev:=hf.ev hok1
 rw [hg] at hev
 simp only [Rep,RepL] at hev
 obtain ⟨us,lb,hev,rfl,hcaps⟩:=hev
 obtain ⟨K,y,hK,hy,hS⟩:=hseq base η w lb hM hcaps
 refine (wpIn_wide (n:=7)).1 (wpIn_rangeFunc ?_)
 intro fn hfn
 obtain ⟨rec,hrec⟩:∃ rec:LoopState→Option Code→Loop,rec=fun st pe=>{ state:=st,pending:=pe,fn,tmps:=a.tmps,params:=#[p],assign,body,defers:=w.heap.size }:=⟨_,rfl⟩
 obtain ⟨W1,hW1⟩:∃ W1,(w.alloc (.deferred (some []))).alloc (.loop (rec .ready none))=W1:=⟨_,rfl⟩
 have hL1:W1.heap[w.heap.size+1]? = some (.loop (rec .ready none)):=by
  rw [← hW1];have:=World.alloc_heap_new (w.alloc (.deferred (some []))) (.loop (rec .ready none));rwa [World.size_alloc] at this
 have hK1:W1.heap[w.heap.size]? = some (.deferred (some [])):=by
  rw [← hW1];exact (Below.heap_alloc _ _ _ (by simp)).trans (World.alloc_heap_new w _)
 have G1:Goes P base S η w S η W1:=by
  have g1:=goes_new hM (.deferred (some []))
  rw [← hW1];exact g1.trans (goes_new g1.mem _)
 refine ⟨w.heap.size+1,[{ target:=.collected w.heap.size,args:=#[] }],W1,{ target:=.fn (.func gf) lb.toArray,args:=#[.func (.yield (w.heap.size+1)) #[] #[]] },W1,gf,
  #[.func (.yield (w.heap.size+1)) #[] #[]]++lb.toArray,W1,?_,?_,fun _ _=>trivial,?_,(fun e=>by cases e),?_⟩
 ·rw [← hW1,hrec];exact run_enterLoop_outer _ _ _ _ _
 ·simp only [resolve,hev]
  simp [go_sem]
 ·simp [invoke,go_sem,eg]
 ·let J:Nat→World→Prop:=fun i W=>∃ T η',I i T∧Goes P base S η w T η' W∧W.heap[w.heap.size+1]? = some (.loop (rec .ready none))∧W.heap[w.heap.size]? = some (.deferred (some []))
  refine (hS (w.heap.size+1) J W1 (fun i W ⟨T,η',h1,h2,h3,h4⟩=>⟨hK T η' W h2,T,η',h1,h2.trans (goes_drew h2.mem),h3,h4⟩) ?_ ⟨S,η,h0,G1,hL1,hK1⟩).mono ?_
  ·rintro i W hi ⟨T,η',hI,hG,hl,hkk⟩
   have hyr:=run_yield (P:=P) (args:=#[y i]) hl (by rw [hrec];rfl)
   rw [hrec] at hyr
   refine ⟨fn,_,assign,body,hyr,?_⟩
   refine roundIn_of_wpIn hfn ?_
   have hbody:=hr i T hi hG.mem.fresh hI
   have hF:RepF P W η' (Fix P T η') (put f (some p) (x i)) (a.put (some p) (y i)):=(hG.repF hf).put (hG.rep (hy i hi)) (some p)
   have hsz:(a.put (some p) (y i)).tmps.size=a.tmps.size:=by rw [size_put]
   have key:assign.wpIn (Fence.wide.inRound (w.heap.size+1)) 5 P (Exit.then (fun a₁ w₁=>∃ w₂,(Instr.beginRound (w.heap.size+1)).run P w₁=.ok () w₂∧body.wpIn (Fence.wide.inRound (w.heap.size+1)) 5 P (roundPost P (w.heap.size+1) (fun e W'=>e=.returned (.bool true)∧J (i+1) W')) a₁ w₂) (fun _ _ _=>False)) { tmps:=(a.put (some p) (y i)).tmps,defers:=[] } W:=by
    refine dwpN_sound hm assign (Q:=DQ.then (fun f S=>dwp P body (fun e _ T'=>e=.normal∧I (i+1) T') f S) (fun e _ T'=>e=.normal∧I (i+1) T')) hok2 (by show codeOk (a.put (some p) (y i)).tmps.size assign=true;rw [hsz];exact hok4) hG.mem (fun t ht'=>hF t ht') hbody (fun ⟨_,_,h⟩=>h) fun e f' S' η1 w1 a' k1 k2 k3 k4 k5=>?_
    cases e with
    | exit _=>cases k1.1
    | ret=>cases k1.1
    | normal =>
     have hl1:=k2.loops _ _ hl rfl
     have hk1:=k2.loops _ _ hkk rfl
     refine ⟨_,run_beginRound hl1 (by rw [hrec]),?_⟩
     have G2:=hG.trans k2
     have G3:=goes_put G2 (o':=.loop { rec .ready none with state:=.busy }) hl1 rfl rfl (by omega) hM.base_
     have hl2:(w1.putObj (w.heap.size+1) (.loop { rec .ready none with state:=.busy })).heap[w.heap.size+1]? = some (.loop { rec .ready none with state:=.busy }):=World.putObj_heap_same (Array.getElem?_eq_some_iff.1 hl1).1
     have hk2:(w1.putObj (w.heap.size+1) (.loop { rec .ready none with state:=.busy })).heap[w.heap.size]? = some (.deferred (some [])):=(World.putObj_heap_other (by omega)).trans hk1
     have k4':a'.tmps.size=a.tmps.size:=k4.trans hsz
     refine dwpN_sound hm body (Q:=fun e _ T'=>e=.normal∧I (i+1) T') hok3 (by rw [k4'];exact hok5) G3.mem (fun t ht'=>rep_put hl1 rfl rfl (k3 t ht')) k1 (fun ⟨_,_,h⟩=>h) fun e f'' S'' η2 w2 a'' j1 j2 j3 j4 j5=>?_
     obtain ⟨rfl,j1⟩:=j1
     have hl3:=j2.loops _ _ hl2 rfl
     have hk3:=j2.loops _ _ hk2 rfl
     refine ⟨_,_,run_endRound none hl3,rfl,S'',η2,j1,?_,?_,?_⟩
     ·exact goes_put (G3.trans j2) hl3 rfl rfl (by omega) hM.base_
     ·have:=World.putObj_heap_same (o:=.loop { { rec .ready none with state:=.busy } with state:=if (none:Option Code).isNone then .ready else .done,pending:=none }) (Array.getElem?_eq_some_iff.1 hl3).1
      rw [hrec] at this ⊢
      exact this
     ·exact (World.putObj_heap_other (by omega)).trans hk3
   exact cast (congrArg (fun t=>assign.wpIn (Fence.wide.inRound (w.heap.size+1)) 5 P (Exit.then (fun a₁ w₁=>∃ w₂,(Instr.beginRound (w.heap.size+1)).run P w₁=.ok () w₂∧body.wpIn (Fence.wide.inRound (w.heap.size+1)) 5 P (roundPost P (w.heap.size+1) (fun e W'=>e=.returned (.bool true)∧J (i+1) W')) a₁ w₂) (fun _ _ _=>False)) { tmps:=t,defers:=[] } W) (by simp [Act.put])) key
  ·rintro e W2 ⟨⟨v,rfl⟩,T,η',hI,hG,hl,hkk⟩
   refine ⟨none,_,?_,hq T η' _ w.heap.size (hk T hG.mem.fresh hI) (goes_put (o':=.loop { rec .ready none with state:=.exhausted }) hG hl rfl rfl (by omega) hM.base_) (Nat.le_refl _) ((World.putObj_heap_other (by omega)).trans hkk)⟩
   have:=run_endLoop (P:=P) hl (by rw [hrec];simp)
   rw [hrec] at this ⊢
   exact this
theorem dwpR_sound (hm:P.follows .mixedOrders=true):∀ (c:Code) {Q:DQ} {S:St} {η:Names} {w:World} {f:Fm} {a:Act} {Q':Exit→Act→World→Prop},codeR a.tmps.size c=true→Mem P base S η w→RepF P w η (Fix P S η) f a→dwpR P c Q f S →
  (∀ e f' S' η' w' a' (ds:List Nat),Q e f' S'→Goes P base S η w S' η' w'→RepF P w' η' (Fix P S' η') f' a'→a'.tmps.size=a.tmps.size→a'.defers=ds.map markD++a.defers→ds.Nodup→(∀ D∈ds,w.heap.size≤D∧w'.heap[D]? = some (.deferred (some [])))→Q' e.up a' w')→c.wp P Q' a w:=by
 have plain:∀ (c:Code) {Q:DQ} {S:St} {η:Names} {w:World} {f:Fm} {a:Act} {Q':Exit→Act→World→Prop},codeOk a.tmps.size c=true→Mem P base S η w→RepF P w η (Fix P S η) f a→dwp P c Q f S →
   (∀ e f' S' η' w' a' (ds:List Nat),Q e f' S'→Goes P base S η w S' η' w'→RepF P w' η' (Fix P S' η') f' a'→a'.tmps.size=a.tmps.size→a'.defers=ds.map markD++a.defers→ds.Nodup→(∀ D∈ds,w.heap.size≤D∧w'.heap[D]? = some (.deferred (some [])))→Q' e.up a' w')→c.wp P Q' a w :=
  fun c {Q S η w f a Q'} hok hM hf h hq=>dwp_sound hm c hok hM hf h fun e f' S' η' w' a' k1 k2 k3 k4 k5=>hq e f' S' η' w' a' [] k1 k2 k3 k4 (by rw [k5];rfl) List.nodup_nil (fun _ h=>by cases h)
 intro c
 induction c with
 | skip=>intro Q S η w f a Q' hok hM hf h hq;exact plain _ hok hM hf h hq
 | label l=>intro Q S η w f a Q' hok hM hf h hq;exact plain _ hok hM hf h hq
 | exit id=>intro Q S η w f a Q' hok hM hf h hq;exact plain _ hok hM hf h hq
 | region id ops draw=>intro Q S η w f a Q' hok hM hf h hq;exact plain _ hok hM hf h hq
 | cond g x y _ _=>intro Q S η w f a Q' hok hM hf h hq;exact plain _ hok hM hf h hq
 | loop c _=>intro Q S η w f a Q' hok hM hf h hq;exact plain _ hok hM hf h hq
 | ret=>intro Q S η w f a Q' hok hM hf h hq;exact plain _ hok hM hf h hq
 | scope c _=>intro Q S η w f a Q' hok hM hf h hq;exact plain _ hok hM hf h hq
 | goto l=>intro Q S η w f a Q' hok hM hf h hq;exact plain _ hok hM hf h hq
 | refuse s=>intro Q S η w f a Q' hok hM hf h hq;exact plain _ hok hM hf h hq
 | rangeFunc g ps x y _ _ =>
  intro Q S η w f a Q' hok hM hf h hq
  obtain ⟨pl⟩:=ps
  match pl,h with
  | [p],h =>
   refine range_sound hm hok hM hf h fun T η' W D k1 k2 k3 k4=>?_
   exact hq .normal f T η' W _ [D] k1 k2 (k2.repF hf) rfl rfl (List.nodup_cons.2 ⟨by simp,List.nodup_nil⟩) (fun D' hD=>by obtain rfl:=List.mem_singleton.1 hD;exact ⟨k3,k4⟩)
 | seq x y ihx ihy =>
  intro Q S η w f a Q' hok hM hf h hq
  simp only [codeR,Bool.and_eq_true] at hok
  refine wp_seq (ihx hok.1 hM hf h fun e f' S' η' w' a' ds k1 k2 k3 k4 k5 k6 k7=>?_)
  cases e with
  | normal =>
   refine ihy (by rw [k4];exact hok.2) k2.mem k3 k1 fun e f'' S'' η'' w'' a'' ds2 g1 g2 g3 g4 g5 g6 g7=>hq e f'' S'' η'' w'' a'' (ds2++ds) g1 (k2.trans g2) g3 (by rw [g4,k4]) (by rw [g5,k5,List.map_append,List.append_assoc]) ?_ fun D hD=>?_
   ·refine List.nodup_append.2 ⟨g6,k6,fun D1 h1 D2 h2 e=>?_⟩
    have a1:=(g7 D1 h1).1
    have a2:=(Array.getElem?_eq_some_iff.1 (k7 D2 h2).2).1
    omega
   ·rcases List.mem_append.1 hD with h1 | h1
    ·exact ⟨Nat.le_trans k2.keep.size (g7 D h1).1,(g7 D h1).2⟩
    ·exact ⟨(k7 D h1).1,g2.loops _ _ (k7 D h1).2 rfl⟩
  | exit i=>exact hq (.exit i) f' S' η' w' a' ds k1 k2 k3 k4 k5 k6 k7
  | ret=>exact hq .ret f' S' η' w' a' ds k1 k2 k3 k4 k5 k6 k7
 | block id c ih =>
  intro Q S η w f a Q' hok hM hf h hq
  refine wp_block (ih hok hM hf h fun e f' S' η' w' a' ds k1 k2 k3 k4 k5 k6 k7=>?_)
  cases e with
  | normal=>exact hq .normal f' S' η' w' a' ds k1 k2 k3 k4 k5 k6 k7
  | ret=>exact hq .ret f' S' η' w' a' ds k1 k2 k3 k4 k5 k6 k7
  | exit i =>
   simp only [DQ.block] at k1
   simp only [DX.up,Exit.inBlock]
   cases hb:Nat.beq i id with
   | true =>
    rw [if_pos (Nat.eq_of_beq_eq_true hb)]
    rw [hb] at k1
    exact hq .normal f' S' η' w' a' ds k1 k2 k3 k4 k5 k6 k7
   | false =>
    rw [if_neg (by intro e;rw [e,Nat.beq_refl] at hb;cases hb)]
    rw [hb] at k1
    exact hq (.exit i) f' S' η' w' a' ds k1 k2 k3 k4 k5 k6 k7
end
theorem leaves_marks {P:Program} {fn:Func} {tmps:Array Value} {R:Ending→World→Prop}:∀ (ds:List Nat) (w:World),ds.Nodup→(∀ D∈ds,w.heap[D]? = some (.deferred (some [])))→(∀ W:World,(∃ X:List Nat,(∀ D∈X,D∈ds)∧W=X.foldl (fun w D=>w.putObj D (.deferred none)) w∧X=ds)→∃ v,(results fn tmps).run P W=.ok v W∧R (.returned v) W) →
  LeavesInM Fence.wide 0 P fn tmps R (ds.map markD) .returning w
 | [],w,_,_,h=>h w ⟨[],fun _ h=>h,rfl,rfl⟩
 | D::ds,w,hn,hd,h=>by
  obtain ⟨hn1,hn2⟩:=List.nodup_cons.1 hn
  refine ⟨by simp,.inl ⟨D,w.putObj D (.deferred none),rfl,run_takeDeferred (hd D (List.mem_cons_self ..)),?_⟩⟩
  refine leaves_marks ds _ hn2 (fun D' hD=>(World.putObj_heap_other (fun e=>hn1 (by rw [← e];exact hD))).trans (hd D' (List.mem_cons_of_mem _ hD))) fun W ⟨X,_,h2,h3⟩=>?_
  subst h3
  exact h W ⟨D::X,fun _ h=>h,h2,rfl⟩
theorem goes_puts {P:Program} {base:Nat} {S T:St} {η η':Names} {w:World} (hb:base≤w.heap.size):∀ (ds:List Nat) (W:World),Goes P base S η w T η' W→ds.Nodup→(∀ D∈ds,w.heap.size≤D∧W.heap[D]? = some (.deferred (some [])))→Goes P base S η w T η' (ds.foldl (fun w D=>w.putObj D (.deferred none)) W)∧∀ d v,Rep P W η' (Fix P T η') d v→Rep P (ds.foldl (fun w D=>w.putObj D (.deferred none)) W) η' (Fix P T η') d v
 | [],W,hG,_,_=>⟨hG,fun _ _ h=>h⟩
 | D::ds,W,hG,hn,hd=>by
  obtain ⟨hn1,hn2⟩:=List.nodup_cons.1 hn
  obtain ⟨h1,h2⟩:=hd D (List.mem_cons_self ..)
  have G:=goes_put (o':=.deferred none) hG h2 rfl rfl h1 hb
  obtain ⟨k1,k2⟩:=goes_puts hb ds _ G hn2 fun D' hD=>⟨(hd D' (List.mem_cons_of_mem _ hD)).1,(World.putObj_heap_other (fun e=>hn1 (by rw [← e];exact hD))).trans (hd D' (List.mem_cons_of_mem _ hD)).2⟩
  exact ⟨k1,fun d v hr=>k2 d v (rep_put h2 rfl rfl hr)⟩
theorem dcalls_range {P:Program} (hm:P.follows .mixedOrders=true) {g:FuncId} {fn:Func} {c:Code} (hf:P.funcs[g]? = some fn) (hb:fn.body=some c) (hent:∀ vs w,(callFunc g vs).run P w=.ok (.enter g vs) w) {rs:List ResultVar} (hrs:fn.results.toList=rs) {args:List D} (hok:(codeR fn.ntmps c && fn.results.all (resOk fn.ntmps) && Nat.ble args.length fn.ntmps)=true) {S:St} {K:D→St→Prop}
  (h:S.WF→dwpR P c (DQ.inl P rs K) (argF args) S):DCalls P g args S K:=by
 subst hrs
 intro base η w vs hM hr
 refine .inl ⟨hent _ _,?_⟩
 simp only [Bool.and_eq_true] at hok
 obtain ⟨⟨hok1,hok2⟩,hok3⟩:=hok
 have hlen:args.length≤fn.ntmps:=Nat.le_of_ble_eq_true hok3
 have hl:=hr.length
 have hsz:(vs.toArray++Array.replicate (fn.ntmps - vs.toArray.size) undef).size=fn.ntmps:=by simp;omega
 refine (callsIn_wide (n:=0)).1 (callsIn_of_wp_marks hf hb trivial ((wpIn_wide (n:=0)).2 ?_))
 refine dwpR_sound hm c (a:={ tmps:=vs.toArray++Array.replicate (fn.ntmps - vs.toArray.size) undef,defers:=[] }) (by rw [hsz];exact hok1) hM (fun t ht=>?_) (h hM.fresh) fun e f' S' η' w' a' ds k1 k2 k3 k4 k5 k6 k7=>?_
 ·rw [hsz] at ht
  simp only [argF]
  by_cases h1:t<vs.length
  ·obtain ⟨x,hx,hr'⟩:=hr.get t (List.getElem?_eq_getElem (by omega:t<args.length))
   have e1:args.getD t undefD=args[t]:=by rw [List.getD_eq_getElem?_getD,List.getElem?_eq_getElem (by omega:t<args.length)];rfl
   have e2:(vs.toArray++Array.replicate (fn.ntmps - vs.toArray.size) undef).getD t undef=x:=by
    rw [Array.getD_eq_getD_getElem?,Array.getElem?_append_left (by simpa using h1)]
    simp [hx]
   rw [e1,e2]
   exact hr'
  ·have e1:args.getD t undefD=undefD:=by rw [List.getD_eq_getElem?_getD,List.getElem?_eq_none (by omega)];rfl
   have e2:(vs.toArray++Array.replicate (fn.ntmps - vs.toArray.size) undef).getD t undef=undef:=by
    rw [Array.getD_eq_getD_getElem?,Array.getElem?_append_right (by simpa using h1)]
    rw [Array.getElem?_replicate]
    split <;> rfl
   rw [e1,e2]
   simp only [Rep,RepL]
   exact ⟨[],rfl,rfl⟩
 ·have hsz':a'.tmps.size=fn.ntmps:=by rw [k4];exact hsz
  have hd':a'.defers=ds.map markD:=by rw [k5];simp
  have fin:dresL P f' S' fn.results.toList (fun ds=>K (one ds) S')→LeavesInM Fence.wide 0 P fn a'.tmps (fun e w'=>∃ d S' η' v,K d S'∧e=.returned v∧Rep P w' η' (Fix P S' η') d v∧Goes P base S η w S' η' w') a'.defers .returning w':=fun hres=>by
   rw [hd']
   refine leaves_marks ds w' k6 (fun D hD=>(k7 D hD).2) fun W ⟨X,_,hW,hX⟩=>?_
   subst hX
   obtain ⟨g1,g2⟩:=goes_puts hM.base_ X w' k2 k6 k7
   rw [← hW] at g1 g2
   obtain ⟨ds',v,q1,q7,q8⟩:=results_sound (S:=S') (η:=η') (w:=W) (f:=f') g1.mem (fun t ht=>g2 _ _ (k3 t ht)) (by rw [hsz'];exact hok2) hres
   exact ⟨v,q8,one ds',S',η',v,q1,rfl,q7,g1⟩
  cases e with
  | normal=>exact fin k1
  | ret=>exact fin k1
  | exit i=>exact k1.elim
set_option maxRecDepth 100000
attribute [local go_sem] Oper.semAt_some
theorem rd_loc {P:Program} {base:Nat} {S S':St} {η:Names} {w:World} {k b:Nat} {t:TypeId} {cs:List D} (hM:Mem P base S η w) (hk:S.ob k=some (.box t cs)) (hb:η k=some (some b)) (hs:∀ j o,S'.ob j=some o→S.ob j=some o) (hk':S'.ob k=none):RepC P w η (Fix P S' η) cs b 0:=by
 obtain ⟨vs,h1,h2,h3⟩:=hM.box k t cs b hk hb
 have K:Keep (fun _=>True) w η (Fix P S η) w η (Fix P S' η):=⟨Nat.le_refl _,fun b i _ hx=>⟨fun k' o hk' ho=>hx k' o hk' (hs k' o ho),rfl⟩,fun _ _ _ h=>h,fun _ c _ h=>⟨c,h,rfl⟩⟩
 refine RepC.mk (RepL.keep K (allL_true _) h2) (fun j v hj=>?_) (fun j _ k2 o hk2 ho=>?_) h3
 ·simp [World.cell?,h1,hj]
 ·have e:=hM.inj k2 k b hk2 hb (by rw [hs k2 o ho];rfl) (by rw [hk];rfl)
  subst e
  rw [hk'] at ho
  cases ho
end Go.Proofs.YtogbklnkpjjkoaaGreatDoor
namespace Go.Proofs.YtogbklnkpjjkoaaGreatDoor
open Go.RowKit Go.Sort Go.Shelf
def iD (n:Int):D:=.v (.int .i64 n)
section
variable {P : Program} {base : Nat} {S : St} {η : Names} {w : World} {ρ : Ren}
theorem putCells_map {α:Type} [Inhabited α] (enc:α→Value) (off:Nat) (l:List α) (c:Array Value):putCells enc off l.toArray c=putCells id off (l.map enc).toArray c:=by
 apply Array.ext_getElem?
 intro k
 simp only [putCells,Array.getElem?_mapIdx,List.size_toArray,List.length_map,id_eq]
 cases c[k]? with
 | none=>rfl
 | some y =>
  simp only [Option.map_some]
  by_cases h:off≤k∧k<off+l.length
  ·rw [if_pos h,if_pos h,getElem!_pos l.toArray (k - off) (by simp;omega),getElem!_pos (l.map enc).toArray (k - off) (by simp;omega)]
   simp
  ·rw [if_neg h,if_neg h]
theorem goes_sortI (hM:Mem P base S η w) {k b:Nat} {t:TypeId} {A B:List D} {l l':List Int} (hl:l'.length=l.length)
  (hk:S.ob k=some (.box t (A++l.map iD++B))) (hb:η k=some (some b)) (n:Nat) (os:Array Obj) :
  Holds (Value.int .i64) w b A.length l.toArray∧Goes P base S η w (S.set k (.box t (A++l'.map iD++B))) η (grow (putRow (Value.int .i64) (Sort.ahead w n) b A.length l'.toArray) os):=by
 obtain ⟨vs,g1,g2,g3⟩:=hM.box k t _ b hk hb
 have em:∀ l:List Int,l.map iD=(l.map (Value.int .i64)).map D.v:=fun l=>by rw [List.map_map];rfl
 rw [em,List.append_assoc] at g2
 obtain ⟨s1,s2⟩:=repL_split g2
 obtain ⟨s3,s4⟩:=repL_split s2
 rw [List.length_map,List.length_map] at s3 s4
 have hF:=repL_vs s3
 have hlen:=g2.length
 simp only [List.length_append,List.length_map] at hlen
 constructor
 ·intro i hi
  have hi':i<l.length:=by simpa using hi
  have hget:vs[A.length+i]? = (l.map (Value.int .i64))[i]? := by
   rw [← hF,List.getElem?_take_of_lt hi',List.getElem?_drop]
  constructor
  ·simp only [World.cell?,g1,Option.isSome_none,Bool.false_eq_true,if_false,List.getElem?_toArray]
   rw [hget,getElem!_pos _ i hi,List.getElem?_map,List.getElem?_eq_getElem hi']
   simp
  ·simp [World.frozen?,g1]
 ·have hfit:A.length+(l'.map (Value.int .i64)).length≤vs.length:=by rw [List.length_map,hl];omega
  have e1:grow (putRow (Value.int .i64) (Sort.ahead w n) b A.length l'.toArray) os=grow (Sort.ahead (w.setRow b (vs.take A.length++l'.map (Value.int .i64)++vs.drop (A.length+(l'.map (Value.int .i64)).length)).toArray) n) os:=by
   have:putRow (Value.int .i64) (Sort.ahead w n) b A.length l'.toArray=Sort.ahead (putRow (Value.int .i64) w b A.length l'.toArray) n:=rfl
   rw [this]
   unfold putRow
   rw [mapBlock_setRow g1,putCells_map,putCells_list hfit]
  rw [e1]
  have G:=goes_set hM (cs':=A++l'.map iD++B) (vs':=vs.take A.length++l'.map (Value.int .i64)++vs.drop (A.length+(l'.map (Value.int .i64)).length)) hk hb (by simp [hl]) (by
    rw [em]
    refine RepL.append (RepL.append s1 (repL_plain _)) ?_
    rw [List.length_map,hl]
    rw [List.drop_drop] at s4
    exact s4) (fun x hx=>by
    simp only [List.mem_append,List.mem_map] at hx
    rcases hx with (hx | ⟨y,_,rfl⟩) | hx
    ·exact g3 x (List.mem_of_mem_take hx)
    ·rfl
    ·exact g3 x (List.mem_of_mem_drop hx))
  have G2:=G.trans (goes_ahead G.mem n)
  exact G2.trans (by simpa using goes_grow G2.mem os.toList)
theorem dsortI (L:SlLaysN.n53 P ρ) (hent:∀ vs w,(callFunc (ρ.f 53) vs).run P w=.ok (.enter (ρ.f 53) vs) w) {k c:Nat} {t:TypeId} {A B:List D} {l:List Int} (hk:S.ob k=some (.box t (A++l.map iD++B))) (hsz:l.length≤1000000) :
  DCalls P (ρ.f 53) [.win k A.length l.length c] S (fun d T=>d=.tup []∧T=S.set k (.box t (A++(l.mergeSort fun x y=>decide (x≤y)).map iD++B))):=by
 intro base η w vs hM hr
 simp only [RepL] at hr
 obtain ⟨x,xs,rfl,hx,rfl⟩:=hr
 obtain ⟨b,vs0,rfl,hb,hheap,-,-,-,-⟩:=win_live hM hk hx
 refine .inl ⟨hent _ _,?_⟩
 have hblk:=(hM.in_ k b hb).2
 have H:=(goes_sortI hM (l':=l) rfl hk hb 0 #[]).1
 have key:=AnyG.slices_Sort_int L b A.length c l w H hblk (by omega)
 refine key.mono ?_
 rintro e' w' ⟨rfl,n,os,rfl⟩
 exact ⟨.tup [],_,η,.tuple #[],⟨rfl,rfl⟩,rfl,by simp only [Rep,RepL];exact ⟨[],rfl,rfl⟩,(goes_sortI hM (l':=l.mergeSort fun x y=>decide (x≤y)) (List.length_mergeSort l) hk hb n os).2⟩
end
def sortIntL_ren:Go.Shelf.Ren:=⟨fun | 53=>73 | 64=>99 | 63=>98 | 78=>132 | 79=>133 | 70=>123 | 71=>124 | 72=>125 | 73=>126 | 74=>127 | 75=>128 | 59=>129 | 76=>130 | 77=>131 | 88=>154 | 89=>155 | 90=>156 | 91=>157 | 92=>158 | 68=>159 | 96=>167 | n=>n,fun | 22=>78 | 23=>3 | 3=>3 | 51=>171 | 0=>0 | 67=>194 | 69=>122 | 4=>4 | 61=>188 | 60=>187 | 44=>90 | 5=>5 | 9=>9 | 75=>208 | 79=>212 | 83=>219 | 84=>220 | n=>n,fun | n=>n⟩
theorem sortIntL:Go.Proofs.SlLaysN.n53 Tryz.prog sortIntL_ren:={
 mixed:=by kernel_rfl
 f53:=⟨Tryz.f73.name,by decide,Tryz.func73.trans (congrArg some (by kernel_rfl))⟩
 f59:=⟨Tryz.f129.name,by decide,Tryz.func129.trans (congrArg some (by kernel_rfl))⟩
 f63:=⟨Tryz.f98.name,by decide,Tryz.func98.trans (congrArg some (by kernel_rfl))⟩
 f64:=Tryz.func99.trans (congrArg some (by kernel_rfl))
 f68:=⟨Tryz.f159.name,by decide,Tryz.func159.trans (congrArg some (by kernel_rfl))⟩
 f70:=⟨Tryz.f123.name,by decide,Tryz.func123.trans (congrArg some (by kernel_rfl))⟩
 f71:=⟨Tryz.f124.name,by decide,Tryz.func124.trans (congrArg some (by kernel_rfl))⟩
 f72:=⟨Tryz.f125.name,by decide,Tryz.func125.trans (congrArg some (by kernel_rfl))⟩
 f73:=⟨Tryz.f126.name,by decide,Tryz.func126.trans (congrArg some (by kernel_rfl))⟩
 f74:=⟨Tryz.f127.name,by decide,Tryz.func127.trans (congrArg some (by kernel_rfl))⟩
 f75:=⟨Tryz.f128.name,by decide,Tryz.func128.trans (congrArg some (by kernel_rfl))⟩
 f76:=⟨Tryz.f130.name,by decide,Tryz.func130.trans (congrArg some (by kernel_rfl))⟩
 f77:=⟨Tryz.f131.name,by decide,Tryz.func131.trans (congrArg some (by kernel_rfl))⟩
 f78:=Tryz.func132.trans (congrArg some (by kernel_rfl))
 f79:=Tryz.func133.trans (congrArg some (by kernel_rfl))
 f88:=⟨Tryz.f154.name,by decide,Tryz.func154.trans (congrArg some (by kernel_rfl))⟩
 f89:=Tryz.func155.trans (congrArg some (by kernel_rfl))
 f90:=Tryz.func156.trans (congrArg some (by kernel_rfl))
 f91:=⟨Tryz.f157.name,by decide,Tryz.func157.trans (congrArg some (by kernel_rfl))⟩
 f92:=⟨Tryz.f158.name,by decide,Tryz.func158.trans (congrArg some (by kernel_rfl))⟩
 f96:=⟨Tryz.f167.name,by decide,Tryz.func167.trans (congrArg some (by kernel_rfl))⟩
 t0:=Tryz.underlying0
 a0:=Tryz.isAgg0
 z0:=Tryz.sizeOf0
 v0:=Tryz.zeroValue0
 t3:=Tryz.underlying3
 a3:=Tryz.isAgg3
 z3:=Tryz.sizeOf3
 v3:=Tryz.zeroValue3
 t4:=Tryz.underlying4
 a4:=Tryz.isAgg4
 z4:=Tryz.sizeOf4
 v4:=Tryz.zeroValue4
 t5:=Tryz.underlying5
 a5:=Tryz.isAgg5
 z5:=Tryz.sizeOf5
 v5:=Tryz.zeroValue5
 t9:=Tryz.underlying9
 a9:=Tryz.isAgg9
 z9:=Tryz.sizeOf9
 v9:=Tryz.zeroValue9
 t22:=Tryz.underlying78
 a22:=Tryz.isAgg78
 z22:=Tryz.sizeOf78
 v22:=Tryz.zeroValue78
 t23:=Tryz.underlying3
 a23:=Tryz.isAgg3
 z23:=Tryz.sizeOf3
 v23:=Tryz.zeroValue3
 t44:=Tryz.underlying90
 a44:=Tryz.isAgg90
 z44:=Tryz.sizeOf90
 v44:=Tryz.zeroValue90
 t51:=Tryz.underlying171
 a51:=Tryz.isAgg171
 z51:=Tryz.sizeOf171
 v51:=Tryz.zeroValue171
 t60:=Tryz.underlying187
 a60:=Tryz.isAgg187
 z60:=Tryz.sizeOf187
 v60:=Tryz.zeroValue187
 t61:=Tryz.underlying188
 a61:=Tryz.isAgg188
 z61:=Tryz.sizeOf188
 v61:=Tryz.zeroValue188
 t67:=Tryz.underlying194
 a67:=Tryz.isAgg194
 z67:=Tryz.sizeOf194
 v67:=Tryz.zeroValue194
 t69:=Tryz.underlying122
 a69:=Tryz.isAgg122
 z69:=Tryz.sizeOf122
 v69:=Tryz.zeroValue122
 t75:=Tryz.underlying208
 a75:=Tryz.isAgg208
 z75:=Tryz.sizeOf208
 v75:=Tryz.zeroValue208
 t79:=Tryz.underlying212
 a79:=Tryz.isAgg212
 z79:=Tryz.sizeOf212
 v79:=Tryz.zeroValue212
 t83:=Tryz.underlying219
 a83:=Tryz.isAgg219
 z83:=Tryz.sizeOf219
 v83:=Tryz.zeroValue219
 t84:=Tryz.underlying220
 a84:=Tryz.isAgg220
 z84:=Tryz.sizeOf220
 v84:=Tryz.zeroValue220 }
end Go.Proofs.YtogbklnkpjjkoaaGreatDoor
namespace Go.Proofs.YtogbklnkpjjkoaaGreatDoor
open Go.RowKit
set_option maxRecDepth 200000
set_option maxHeartbeats 4000000
attribute [local go_sem] Oper.semAt_some
section
variable {P : Program} {f : Fm} {S : St} {Q : DQ}
theorem dwpR_seq (x y:Code):dwpR P (.seq x y) Q f S=dwpR P x (DQ.then (dwpR P y Q) Q) f S:=Eq.trans (Eq.refl _) (Eq.refl _)
theorem dwpR_block (id:Nat) (c:Code):dwpR P (.block id c) Q f S=dwpR P c (DQ.block id Q) f S:=Eq.trans (Eq.refl _) (Eq.refl _)
theorem dwpR_region (id:Nat) (ops:Array Oper) (d:Bool):dwpR P (.region id ops d) Q f S=dwp P (.region id ops d) Q f S:=Eq.trans (Eq.refl _) (Eq.refl _)
theorem dwpR_ret:dwpR P .ret Q f S=Q .ret f S:=Eq.trans (Eq.refl _) (Eq.refl _)
attribute [go_sem] dwpR_seq dwpR_block dwpR_region dwpR_ret
theorem drange_mk {g:Operand} {p:Tmp} {assign body:Code} {gf:FuncId} {caps:List D} (N:Nat) (x:Nat→D) (I:Nat→St→Prop) (hg:ev f g=.fn (.func gf) [] caps) (hs:DSeq P gf caps S N x) (h0:I 0 S)
  (hr:∀ i T,i<N→T.WF→I i T→dwp P (.seq assign body) (fun e _ T'=>e=.normal∧I (i+1) T') (put f (some p) (x i)) T) (hk:∀ T,T.WF→I N T→Q .normal f T):dwpR P (.rangeFunc g #[p] assign body) Q f S:=⟨gf,caps,N,x,I,hg,hs,h0,hr,hk⟩
end
theorem thaw_fn_rd1 {P:Program} {S:St} {k:Nat} {f:Fn} {t0:TypeId} {c0:List D} (h0:S.ob k=some (.box t0 c0)):Thaw P S (.fn f [] [.loc k 0]) (S.drop k) (.fn f [] [.rd c0 0]):=by
 intro base η w v hM hr
 have G1:=goes_drop hM k
 have hs:∀ i o,(S.drop k).ob i=some o→S.ob i=some o:=fun i o hi=>by
  simp only [St.drop] at hi
  split at hi
  ·cases hi
  ·exact hi
 refine ⟨η,G1,?_⟩
 simp only [Rep,RepL] at hr ⊢
 obtain ⟨us,vs,rfl,rfl,_,_,rfl,⟨b0,e0,rfl⟩,rfl⟩:=hr
 refine ⟨_,_,rfl,rfl,_,_,rfl,⟨b0,0,rfl,?_⟩,rfl⟩
 exact rd_loc hM h0 e0 hs (by simp [St.drop])
theorem values1_in (l b1 o1 n c:Nat) (A:Option Addr) (y:Nat→Value) (J:Nat→World→Prop) (hn:n≤c) (hn2:n≤140737488355328)
  (hJ:∀ i W,J i W→(W.cell? ⟨b1,o1,none⟩=some (.slice A n c)∧∀ j,j<n→∃ b o,A=some ⟨b,o,none⟩∧W.cell? ⟨b,o+j,none⟩=some (y j))∧J i W.drew)
  (hY:∀ i W1,i<n→J i W1→YieldAt Fence.wide 5 Tryz.prog l #[y i] W1 fun e W'=>e=.returned (.bool true)∧J (i+1) W') (W:World) (h0:J 0 W) :
  CallsIn Fence.wide 6 Tryz.prog 74 #[.func (.yield l) #[] #[],.pointer (some ⟨b1,o1,none⟩)] W fun e W'=>(∃ v,e=.returned v)∧J n W':=by
 refine callsIn_of_wp Tryz.func74 rfl trivial ?_ rfl
 simp only [Tryz.ntmps74,List.size_toArray,List.length_cons,List.length_nil,Nat.reduceAdd,Nat.reduceSub,Array.replicate_succ,Array.replicate_zero,List.push_toArray,List.append_toArray,List.nil_append,List.cons_append]
 obtain ⟨⟨hc1,_⟩,_⟩:=hJ 0 W h0
 gi_wp2
 gi_loopw [7] (fun i wr=>∃ k:Nat,i=.int .i64 (k:Int)∧k≤n∧J k wr) (fun i _=>n+1 - (intOf i).toNat)
 case atStart=>exact ⟨0,rfl,Nat.zero_le _,h0⟩
 case round =>
  obtain ⟨k,rfl,hk,hj⟩:=hrel
  by_cases hlt:k<n
  ·have hd1:decide ((k:Int)<(n:Int))=true:=decide_eq_true (by omega)
   obtain ⟨⟨_,hc2⟩,_⟩:=hJ k _ hj
   obtain ⟨b,o,rfl,hc3⟩:=hc2 k hlt
   have w1:IntKind.i64.wrap ((k:Int)+1)=((k+1:Nat):Int):=IntWalk.i64_in _ ⟨by omega,by omega⟩
   have i1:(0:Int)≤(k:Int):=by omega
   have i2:(k:Int)<(n:Int):=by omega
   obtain ⟨fn,tmps,assign,body,hyr,hR⟩:=hY k wr hlt hj
   gi_wp2_with fail
   refine hR.mono ?_
   rintro e W3 ⟨rfl,hJ3⟩
   gi_wp2_with fail
   go_roundw
   case rel=>exact ⟨k+1,by go_num,by omega,hJ3⟩
   case measure=>simp [intOf];omega
  ·have hd1:decide ((k:Int)<(n:Int))=false:=decide_eq_false (by omega)
   obtain rfl:k=n:=by omega
   gi_wp2_with fail
   go_end0
   exact ⟨⟨_,rfl⟩,hj⟩
theorem wI (l:List Int):∀ d∈l.map iD,d.width=1:=fun d hd=>by obtain ⟨x,_,rfl⟩:=List.mem_map.1 hd;rfl
theorem flat_iD:∀ l:List Int,flat (l.map iD)=l.map iD
 | []=>rfl
 | x::l=>by
  have:=flat_iD l
  simp only [flat] at this ⊢
  rw [List.map_cons,List.flatMap_cons,this]
  rfl
theorem values_seq {S:St} (own:Own) (l:List Int):DSeq Tryz.prog 74 [.rd [.sl own (l.map iD)] 0] S l.length (fun i=>iD (l.getD i 0)):=by
 refine ⟨fun _ _=>by kernel_rfl,fun base η w lb hM hr=>?_⟩
 simp only [RepL,Rep,RepC,and_true] at hr
 obtain ⟨_,_,rfl,⟨b1,o1,rfl,h1,u1,h2,h3,A,c,rfl,hnc,hn,_,hA⟩,rfl⟩:=hr
 rw [List.length_map] at hnc hn hA h2 h3
 refine ⟨fun W=>W.cell? ⟨b1,o1+0,none⟩=some (.slice A l.length c)∧∀ j,j<l.length→∃ b o,A=some ⟨b,o,none⟩∧W.cell? ⟨b,o+j,none⟩=some (.int .i64 (l.getD j 0)),fun i=>.int .i64 (l.getD i 0),fun T η' W G=>⟨(G.keep.cell h1 h2).2,fun j hj=>?_⟩,fun i hi=>by simp only [iD,Rep],fun lb J W hJ hY h0=>?_⟩
 ·obtain ⟨b,o,z,hAe,hz,hE⟩:=hA (by omega)
  have hg:(l.map iD)[j]? = some (iD (l.getD j 0)):=by simp [hj,List.getD,iD]
  obtain ⟨_,k2⟩:=RepE.get j hE hg
  obtain ⟨e1,e2,x,e3,e4,e5⟩:=k2 rfl
  subst e1
  simp only [iD,Rep] at e5
  subst e5
  rw [Nat.mul_one] at e2 e3
  exact ⟨b,o,hAe,(G.keep.cell e2 e3).2⟩
 ·exact values1_in lb b1 _ l.length c A _ J hnc hn hJ hY W h0
theorem values_d {S:St} (own:Own) (l:List D):DCalls Tryz.prog 53 [.sl own l] S fun d T=>d=.fn (.func 74) [] [.rd [.sl own l] 0]∧S.Sub T:=by
 refine DCalls.thaw ?_
 refine dcalls_inline mixed Tryz.func53 rfl (fun _ _=>by kernel_rfl) (rs:=[.tmp 2]) rfl (by kernel_rfl) (fun hS=>?_)
 (refine dd0 ?_)
 refine ⟨_,_,thaw_fn_rd1 (k:=S.next) (by exact di0),rfl,?_⟩
 exact ((St.Sub.refl S).add hS _).drop hS (Nat.le_refl _)
theorem elIs:elT Tryz.prog 78=some 3:=by kernel_rfl
theorem szIs:szOf Tryz.prog 3=1:=by kernel_rfl
theorem byIs:bytesOf Tryz.prog 3=8:=by kernel_rfl
theorem zeIs:zeroT Tryz.prog 3=true:=by kernel_rfl
theorem zoIs:zeroOk Tryz.prog 3=true:=by kernel_rfl
def IntsAt (S:St) (l:List Int) (d:D) (T:St):Prop:=OwnD Tryz.prog T 3 (l.map iD) d∧(∀ k n c,d=.win k 0 n c→S.next≤k)∧S.Sub T∧(l=[]→d=.sl .full [])
theorem appendSeq_d {S:St} (own:Own) (l:List Int) (hl:l.length≤1000000):DCalls Tryz.prog 97 [.sl .full [],.fn (.func 74) [] [.rd [.sl own (l.map iD)] 0]] S fun d T=>IntsAt S l d T:=by
 refine DCalls.mono (DCalls.wf (K:=fun d T=>IntsAt S l d T) ?_) fun d T h=>h.1
 refine dcalls_range mixed Tryz.func97 rfl (fun _ _=>by kernel_rfl) (rs:=[.tmp 4]) rfl (by kernel_rfl) fun hS=>?_
 (refine dd0 ?_)
 refine drange_mk l.length (fun i=>iD (l.getD i 0)) (fun i T'=>∃ d,T'.ob S.next=some (.box 78 [d])∧OwnD Tryz.prog T' 3 ((l.take i).map iD) d∧(∀ k n c,d=.win k 0 n c→S.next<k)∧S.Sub T'∧S.next<T'.next∧(i=0→d=.sl .full [])) (by exact di0) (values_seq own l) ?_ ?_ ?_
 ·exact ⟨.sl .full [],by exact di0,.inl ⟨rfl,rfl⟩,(fun _ _ _ e=>by cases e),(St.Sub.refl S).add hS _,Nat.lt_succ_self _,fun _=>rfl⟩
 ·rintro i T hi hT ⟨d,h1,h2,h3,h4,h5,h6⟩
  (refine dd1 @h1 ?_)
  have hw:∀ d∈(l.take i).map iD,d.width=szOf Tryz.prog 3:=fun d hd=>by rw [szIs];exact wI _ d hd
  refine ⟨⟨rfl,rfl⟩,dapp_ownD elIs (by rw [elIs];rfl) zeIs zoIs h2 hw (fun d hd=>by obtain rfl:=List.mem_singleton.1 hd;rw [szIs];rfl) (by simp only [List.length_map,List.length_take,List.length_singleton];omega) (by simp only [List.length_map,List.length_take,List.length_singleton,byIs];omega) fun c' zs' hz=>?_⟩
  have hlf:(T.left d).ob S.next=some (.box 78 [d])∧S.Sub (T.left d)∧(T.left d).next=T.next:=by
   rcases h2 with ⟨_,rfl⟩ | ⟨k,c,zs,rfl,hk,_,hkn⟩
   ·exact ⟨h1,h4,rfl⟩
   ·have hk2:=h3 _ _ _ rfl
    refine ⟨?_,h4.drop hS (Nat.le_of_lt hk2),rfl⟩
    simp only [St.left,St.drop]
    rw [if_neg (by omega)]
    exact h1
  obtain ⟨g1,g2,g3⟩:=hlf
  generalize T.left d=T1 at *
  (refine dd1 @g1 ?_)
  have e1:(l.take (i+1)).map iD=(l.take i).map iD++[iD (l.getD i 0)]:=by
   rw [List.take_succ_eq_append_getElem hi,List.map_append]
   simp [List.getD,hi]
  rw [e1]
  refine ⟨_,rfl,.inr ⟨T.next,c',zs',?_,?_,hz,?_⟩,fun k n c e=>?_,(g2.add hS _).set hS (Nat.le_refl _) _⟩
  ·rw [List.length_append,List.length_map,List.length_singleton]
  ·simp only [St.set,St.add]
   rw [if_neg (by omega),if_pos g3.symm]
  ·show T.next<T1.next+1
   omega
  ·injection e with e;omega
 ·rintro T hT ⟨d,h1,h2,h3,h4,h5,h6⟩
  rw [List.take_length] at h2
  (refine dd1 @h1 ?_)
  exact ⟨h2,fun k n c e=>Nat.le_of_lt (h3 k n c e),h4,fun e=>h6 (by rw [e];rfl)⟩
theorem collect_d {S:St} (own:Own) (l:List Int) (hl:l.length≤1000000):DCalls Tryz.prog 72 [.fn (.func 74) [] [.rd [.sl own (l.map iD)] 0]] S fun d T=>IntsAt S l d T:=by
 refine dcalls_inline mixed Tryz.func72 rfl (fun _ _=>by kernel_rfl) (rs:=[.tmp 2]) rfl (by kernel_rfl) (fun hS=>?_)
 (refine dd0 ?_)
 refine (appendSeq_d own l hl).mono ?_
 rintro d T h
 (refine dd0 ?_)
 exact h
theorem onValS_of {o:Option (Prop × D)} {c:Prop} {d:D} {K:D→St→Prop} {S:St} (h:o=some (c,d)) (hc:c) (hk:K d S):onValS o K S:=by
 rw [h,onValS_some]
 exact ⟨hc,hk⟩
theorem bitsLen0_d (S:St):DCalls Tryz.prog 99 [.v (.int .u64 0)] S fun d T=>d=.v (.int .i64 0)∧S.Sub T:=by
 refine dcalls_inline mixed Tryz.func99 rfl (fun _ _=>by kernel_rfl) (rs:=[.tmp 2]) rfl (by kernel_rfl) (fun hS=>?_)
 have hcv:pureRun Tryz.prog (convert 171 122 (.int .u64 0))=some (.int .u64 0):=by kernel_rfl
 (refine dd1 @hcv ?_)
 refine dcalls_inline mixed Tryz.func133 rfl (fun _ _=>by kernel_rfl) (rs:=[.tmp 2]) rfl (by kernel_rfl) (fun hS=>?_)
 have c1:decide ((4294967296:Int)≤0)=false:=by decide
 have c2:decide ((65536:Int)≤0)=false:=by decide
 have c3:decide ((256:Int)≤0)=false:=by decide
 have hc5:pureRun Tryz.prog (convert 122 5 (.int .u64 0))=some (.int .u8 0):=by kernel_rfl
 have hc6:pureRun Tryz.prog (convert 5 3 (.int .u8 0))=some (.int .i64 0):=by kernel_rfl
 (refine dd4 @c1 @c2 @c3 @hc5 ?_)
 refine ⟨of_decide_eq_true (by kernel_rfl),?_⟩
 refine onValS_of (c:=True) (d:=.v (.int .i64 0)) (by kernel_rfl) trivial ?_
 have w0:IntKind.i64.wrap (0+0)=0:=by decide
 (refine dd1 @w0 ?_)
 exact St.Sub.refl S
theorem sort0I_d (S:St):DCalls Tryz.prog 73 [.sl .full []] S fun d T=>d=.tup []∧S.Sub T:=by
 refine dcalls_inline mixed Tryz.func73 rfl (fun _ _=>by kernel_rfl) (rs:=[]) rfl (by kernel_rfl) (fun hS=>?_)
 have hcv:pureRun Tryz.prog (convert 3 171 (.int .i64 0))=some (.int .u64 0):=by kernel_rfl
 (refine dd1 @hcv ?_)
 refine DCalls.mono (DCalls.wf (bitsLen0_d S)) ?_
 rintro d T ⟨⟨rfl,hsub⟩,hT⟩
 (refine dd0 ?_)
 refine dcalls_inline mixed Tryz.func98 rfl (fun _ _=>by kernel_rfl) (rs:=[]) rfl (by kernel_rfl) (fun hS=>?_)
 (refine dd0 ?_)
 refine dloop_fuel 1 wfA (by kernel_rfl) ?_
 rw [loopN_eq]
 have b1:decide (IntKind.i64.wrap (0 - 0)≤12)=true:=by decide
 have b2:decide ((1:Int)<0)=false:=by decide
 (refine dd1 @b1 ?_)
 refine dcalls_inline mixed Tryz.func123 rfl (fun _ _=>by kernel_rfl) (rs:=[]) rfl (by kernel_rfl) (fun hS=>?_)
 have b3:IntKind.i64.wrap (0+1)=1:=by decide
 (refine dd1 @b3 ?_)
 refine dloop_fuel 1 wfA (by kernel_rfl) ?_
 rw [loopN_eq]
 (refine dd1 @b2 ?_)
 exact hsub
theorem mergeSort_asc {l:List Int} (h:l.Pairwise (·≤·)):(l.mergeSort fun x y=>decide (x≤y))=l:=List.mergeSort_of_pairwise (h.imp fun h=>decide_eq_true h)
theorem sortedI_d {S:St} (own:Own) (l:List Int) (hl:l.length≤1000000) (ha:l.Pairwise (·≤·)):DCalls Tryz.prog 52 [.fn (.func 74) [] [.rd [.sl own (l.map iD)] 0]] S fun d T=>IntsAt S l d T:=by
 refine dcalls_inline mixed Tryz.func52 rfl (fun _ _=>by kernel_rfl) (rs:=[.tmp 2]) rfl (by kernel_rfl) (fun hS=>?_)
 (refine dd0 ?_)
 refine DCalls.mono (DCalls.wf (collect_d own l hl)) ?_
 rintro d T ⟨⟨h1,h2,h3,h4⟩,hT⟩
 (refine dd0 ?_)
 rcases h1 with ⟨e1,rfl⟩ | ⟨k,c,zs,rfl,hk,hz,hkn⟩
 ·refine DCalls.mono (DCalls.wf (sort0I_d T)) ?_
  rintro d T1 ⟨⟨rfl,hsub⟩,hT1⟩
  (refine dd0 ?_)
  exact ⟨.inl ⟨e1,rfl⟩,h2,h3.trans hsub,fun _=>rfl⟩
 ·rw [List.length_map]
  by_cases h0:l.length=0
  ·obtain rfl:l=[]:=List.eq_nil_of_length_eq_zero h0
   cases h4 rfl
  ·have hc:0<c:=by
    rw [szIs,List.length_append,flat_iD,List.length_map] at hz;omega
   rw [ownOb_box hc,flat_iD] at hk
   refine DCalls.mono (DCalls.wf (dsortI sortIntL (by intro _ _;kernel_rfl) (A:=[]) (B:=zs) (l:=l) hk hl)) ?_
   rintro d T1 ⟨⟨rfl,rfl⟩,hT1⟩
   rw [mergeSort_asc ha]
   (refine dd0 ?_)
   refine ⟨.inr ⟨k,c,zs,by rw [List.length_map],?_,hz,hkn⟩,fun q n c e=>h2 q n c (by rw [List.length_map];exact e),?_,fun e=>absurd (by rw [e];rfl) h0⟩
   ·rw [ownOb_box hc,flat_iD];simp [St.set]
   ·exact h3.set hS (h2 _ _ _ rfl) _
end Go.Proofs.YtogbklnkpjjkoaaGreatDoor
namespace Go.Proofs.YtogbklnkpjjkoaaGreatDoor
open Go.RowKit
def nD (n:Nat):D:=iD (n:Int)
def verCs (v:DVer) (o:Own) (bes:List Nat):List D:=.v (.int .i64 v.up)::((encL v.lens).cells++((encS v.sch).cells++[.sl o (bes.map nD)]))
def verD (v:DVer) (o:Own) (bes:List Nat):D:=.agg (verCs v o bes)
theorem verCs_len (v:DVer) (o:Own) (bes:List Nat):(verCs v o bes).length=25:=by
 simp only [verCs,List.length_cons,List.length_append,cells_encL,cells_encS,List.length_nil]
theorem width_verD (v:DVer) (o:Own) (bes:List Nat):(verD v o bes).width=25:=verCs_len v o bes
theorem okCell_verD (v:DVer) (o:Own) (bes:List Nat):(verD v o bes).okCell=true:=rfl
theorem elVs:elT Tryz.prog 92=some 99:=by kernel_rfl
theorem szVs:szOf Tryz.prog 99=25:=by kernel_rfl
theorem byVs:bytesOf Tryz.prog 99≤1000:=by decide +kernel
theorem zeVs:zeroT Tryz.prog 99=true:=by kernel_rfl
theorem zoVs:zeroOk Tryz.prog 99=true:=by kernel_rfl
def namesR (vs:List DVer):List (H32 × Nat):=(vs.map (·.name)).zipIdx
def findR (vs:List DVer) (h:H32):Option Nat:=mget (namesR vs) h
theorem namesR_snoc (vs:List DVer) (v:DVer):namesR (vs++[v])=namesR vs++[(v.name,vs.length)]:=by
 simp [namesR,List.zipIdx_append]
theorem findR_some {vs:List DVer} {h:H32} {i:Nat} (hf:findR vs h=some i):∃ hi:i<vs.length,vs[i].name=h:=by
 unfold findR mget namesR at hf
 rw [Option.map_eq_some_iff] at hf
 obtain ⟨⟨a,b⟩,h1,rfl⟩:=hf
 have h2:=List.mem_of_find?_eq_some h1
 have h3:=List.find?_some h1
 have h4:=of_decide_eq_true h3
 obtain ⟨h5,h6⟩:=List.mem_zipIdx' h2
 simp only at h4 h5 h6
 have h7:b<vs.length:=by simpa using h5
 refine ⟨h7,?_⟩
 rw [h4,h6]
 simp
theorem findR_none {vs:List DVer} {h:H32} (hf:findR vs h=none):∀ i (hi:i<vs.length),vs[i].name ≠ h:=fun i hi e=>by
 unfold findR mget namesR at hf
 rw [Option.map_eq_none_iff,List.find?_eq_none] at hf
 have:(vs[i].name,i)∈(vs.map (·.name)).zipIdx:=by
  rw [List.mk_mem_zipIdx_iff_getElem?]
  simp [hi]
 exact hf _ this (by simp [e])
theorem nodup_inj {α:Type} {l:List α} (hn:l.Nodup) {i j:Nat} (hi:i<l.length) (hj:j<l.length) (e:l[i]=l[j]):i=j:=by
 have h:=List.pairwise_iff_getElem.1 hn
 rcases Nat.lt_trichotomy i j with h1 | h1 | h1
 ·exact absurd e (h i j hi hj h1)
 ·exact h1
 ·exact absurd e.symm (h j i hj hi h1)
theorem findR_at {vs:List DVer} (hn:(vs.map (·.name)).Nodup) {i:Nat} (hi:i<vs.length):findR vs vs[i].name=some i:=by
 cases hf:findR vs vs[i].name with
 | none=>exact absurd rfl (findR_none hf i hi)
 | some j =>
  obtain ⟨hj,e⟩:=findR_some hf
  congr 1
  have h1:(vs.map (·.name))[j]'(by simpa using hj)=(vs.map (·.name))[i]'(by simpa using hi):=by simpa using e
  exact nodup_inj hn _ _ h1
structure FrN (F:Nat→Prop) (S T:St):Prop where
 ob:∀ j o,¬ F j→S.ob j=some o→T.ob j=some o
 next:S.next≤T.next
theorem FrN.of_sub {F:Nat→Prop} {S T:St} (h:S.Sub T):FrN F S T:=⟨fun j o _ e=>h.ob j o e,h.next⟩
theorem FrN.trans {F:Nat→Prop} {A B C:St} (h:FrN F A B) (g:FrN F B C):FrN F A C:=⟨fun j o hj e=>g.ob j o hj (h.ob j o hj e),Nat.le_trans h.next g.next⟩
def RegX (k:Nat) (G:Nat→Prop) (ns:List H32) (vs:List DVer) (ms:List (H32 × Nat)) (bes:Nat→List Nat) (S:St):Prop :=
 ∃ (ow:Own) (d:D) (es:List D) (o:Nat→Own) (b j:Nat),
  S.ob k=some (.box 95 [.sl ow (ns.map encH),d,.v (.map (some b))]) ∧
  (ow=.full∧ns=[]∨∃ g,G g∧ow=.row g∧S.ob g=some (.row 39 ns.length)) ∧
  (OwnD Tryz.prog S 99 es d∧∀ q n c,d=.win q 0 n c→G q) ∧
  (S.ob j=some (.mp b (mapL ms))∧G j) ∧
  (es.length=vs.length∧∀ i (hi:i<vs.length),es[i]? = some (verD vs[i] (o i) (bes i))) ∧
  (∀ i,i<vs.length→o i=.full∨∃ g,G g∧o i=.row g∧S.ob g=some (.row 3 (bes i).length)) ∧
  (∀ i i' g,i<vs.length→i'<vs.length→o i=.row g→o i'=.row g→i=i')
theorem OwnD.mono2 {P:Program} {T T':St} {e:TypeId} {es:List D} {d:D} {F:Nat→Prop} (hd:OwnD P T e es d) (hF:∀ q n c,d=.win q 0 n c→F q) (hs:∀ q o,F q→T.ob q=some o→T'.ob q=some o) (hn:T.next≤T'.next):OwnD P T' e es d:=by
 rcases hd with h | ⟨k,c,zs,rfl,h2,h3,h4⟩
 ·exact .inl h
 ·exact .inr ⟨k,c,zs,rfl,hs _ _ (hF _ _ _ rfl) h2,h3,Nat.lt_of_lt_of_le h4 hn⟩
theorem RegX.mono {k:Nat} {G G':Nat→Prop} {ns:List H32} {vs:List DVer} {ms:List (H32 × Nat)} {bes:Nat→List Nat} {S T:St} (h:RegX k G ns vs ms bes S) (hk:G k) (hG:∀ q,G q→G' q) (hs:∀ q o,G q→S.ob q=some o→T.ob q=some o) (hn:S.next≤T.next):RegX k G' ns vs ms bes T:=by
 obtain ⟨ow,d,es,o,b,j,h1,h2,⟨h3,h4⟩,⟨h5,h6⟩,h7,h8,h9⟩:=h
 refine ⟨ow,d,es,o,b,j,hs _ _ hk h1,?_,⟨h3.mono2 h4 hs hn,fun q n c e=>hG _ (h4 q n c e)⟩,⟨hs _ _ h6 h5,hG _ h6⟩,h7,fun i hi=>?_,h9⟩
 ·rcases h2 with h2 | ⟨g,g1,g2,g3⟩
  ·exact .inl h2
  ·exact .inr ⟨g,hG _ g1,g2,hs _ _ g1 g3⟩
 ·rcases h8 i hi with h | ⟨g,g1,g2,g3⟩
  ·exact .inl h
  ·exact .inr ⟨g,hG _ g1,g2,hs _ _ g1 g3⟩
structure RegAt (k:Nat) (F:Nat→Prop) (vs:List DVer) (S:St):Prop where
 ex:RegX k F (vs.map (·.name)) vs (namesR vs) (besL vs) S
 fk:F k
 lt:∀ q,F q→q<S.next
theorem RegAt.mono {k:Nat} {F:Nat→Prop} {vs:List DVer} {S T:St} (h:RegAt k F vs S) (hs:∀ q o,F q→S.ob q=some o→T.ob q=some o) (hn:S.next≤T.next):RegAt k F vs T :=
 ⟨h.ex.mono h.fk (fun _ h=>h) hs hn,h.fk,fun q hq=>Nat.lt_of_lt_of_le (h.lt q hq) hn⟩
theorem RegAt.sub {k:Nat} {F:Nat→Prop} {vs:List DVer} {S T:St} (h:RegAt k F vs S) (hs:S.Sub T):RegAt k F vs T:=h.mono (fun q o _ e=>hs.ob q o e) hs.next
theorem RegAt.fr {k:Nat} {F G:Nat→Prop} {vs:List DVer} {S T:St} (h:RegAt k F vs S) (hs:FrN G S T) (hd:∀ q,F q→¬ G q):RegAt k F vs T:=h.mono (fun q o hq e=>hs.ob q o (hd q hq) e) hs.next
/-! Elements that lie one behind the other. -/
theorem flatR_split {es:List D} {z i:Nat} {e:D} (hw:∀ d∈es,d.width=z) (hi:es[i]? = some e) (zs:List D):flat es++zs=flat (es.take i)++(e.cells++(flat (es.drop (i+1))++zs))∧(flat (es.take i)).length=i * z∧e.cells.length=z:=by
 obtain ⟨hl,he⟩:=List.getElem?_eq_some_iff.1 hi
 refine ⟨?_,?_,hw e (List.mem_of_getElem? hi)⟩
 ·have:es=es.take i++e::es.drop (i+1):=by rw [← he,List.getElem_cons_drop,List.take_append_drop]
  conv=>lhs;rw [this]
  simp [flat]
 ·rw [dflat_length (fun d hd=>hw d (List.mem_of_mem_take hd)),List.length_take,Nat.min_eq_left (Nat.le_of_lt hl)]
theorem flatR_get {es:List D} {z i j:Nat} {e:D} (hw:∀ d∈es,d.width=z) (hi:es[i]? = some e) (hj:j<z) (zs:List D):(flat es++zs).getD (i * z+j) undefD=e.cells.getD j undefD:=by
 obtain ⟨h1,h2,h3⟩:=flatR_split hw hi zs
 rw [h1,List.getD_eq_getElem?_getD,List.getElem?_append_right (by omega),h2,List.getElem?_append_left (by omega),List.getD_eq_getElem?_getD]
 congr 2
 omega
theorem flatR_part {es:List D} {z i a b:Nat} {e:D} (hw:∀ d∈es,d.width=z) (hi:es[i]? = some e) (hj:a+b≤z) (zs:List D):((flat es++zs).drop (i * z+a)).take b=(e.cells.drop a).take b:=by
 obtain ⟨h1,h2,h3⟩:=flatR_split hw hi zs
 rw [h1,List.drop_append,List.drop_of_length_le (by omega),List.nil_append,h2,show i * z+a - i * z=a by omega,List.drop_append_of_le_length (by omega),List.take_append_of_le_length (by rw [List.length_drop];omega)]
theorem flatR_fit {es:List D} {z i:Nat} {e:D} (hw:∀ d∈es,d.width=z) (hi:es[i]? = some e) (zs:List D):i * z+z≤(flat es++zs).length:=by
 obtain ⟨h1,h2,h3⟩:=flatR_split hw hi zs
 rw [h1,List.length_append,h2,List.length_append,h3];omega
theorem flatR_set {es:List D} {z i a:Nat} {e x:D} (hw:∀ d∈es,d.width=z) (hi:es[i]? = some e) (hj:a<z) (zs:List D) {e':D} (he:e'.cells=e.cells.take a++[x]++e.cells.drop (a+1)):(flat es++zs).take (i * z+a)++[x]++(flat es++zs).drop (i * z+a+1)=flat (es.set i e')++zs:=by
 obtain ⟨h1,h2,h3⟩:=flatR_split hw hi zs
 obtain ⟨hl,_⟩:=List.getElem?_eq_some_iff.1 hi
 have hs:flat (es.set i e')=flat (es.take i)++(e'.cells++flat (es.drop (i+1))):=by
  rw [List.set_eq_take_append_cons_drop,if_pos hl]
  simp [flat]
 rw [hs,h1,List.take_append,List.take_of_length_le (by omega),h2,show i * z+a - i * z=a by omega,List.take_append_of_le_length (by omega),List.drop_append,List.drop_of_length_le (by omega),List.nil_append,h2,show i * z+a+1 - i * z=a+1 by omega,List.drop_append_of_le_length (by omega),he]
 simp
section
set_option maxRecDepth 200000
set_option maxHeartbeats 4000000
theorem find_at {T:St} {k:Nat} {F:Nat→Prop} {vs:List DVer} (hr:RegAt k F vs T) (h:H32):DAt Tryz.prog 35 [.loc k 0,encH h] T (.tup [.v (.int .i64 (((findR vs h).getD 0:Nat):Int)),.v (.bool (findR vs h).isSome)]):=by
 refine dat_of_dwpL mixed Tryz.func35 rfl (fun _ _=>by kernel_rfl) (rs:=[.tmp 4,.tmp 5]) rfl (by kernel_rfl) (by simp [D.closed,D.all,allL]) (fun hS=>?_)
 obtain ⟨ow,d,es,o,b,j,h1,h2,⟨h3,h4⟩,⟨h5,h6⟩,h7,h8,h9⟩:=hr.ex
 have hkl:=hr.lt k hr.fk
 have hjl:=hr.lt j h6
 have lh:=h.2
 (refine dd0 ?_)
 have h1':(T.add (.box 39 (h.1.map bD))).ob k=some (.box 95 [.sl ow ((vs.map (·.name)).map encH),d,.v (.map (some b))]):=by exact di1 @h1
 have h5':(T.add (.box 39 (h.1.map bD))).ob j=some (.mp b (mapL (namesR vs))):=by exact di1 @h5
 have hn1:(T.add (.box 39 (h.1.map bD))).ob T.next=some (.box 39 (h.1.map bD)):=by exact di0
 refine ddraw_any (fun S'=>S'.ob k=some (.box 95 [.sl ow ((vs.map (·.name)).map encH),d,.v (.map (some b))])∧S'.ob T.next=some (.box 39 (h.1.map bD))) 11 (by exact di4 @h1' @hn1 @true_and @and_true) (by kernel_rfl) ?_
 (have F:=@lh;refine stq F 0 ?_;refine stq F 1 ?_;refine stq F 2 ?_;refine stq F 3 ?_;refine stq F 4 ?_;clear F)
 (refine s_one 5 ?_;(refine dd0 ?_))
 refine dlook_hash h5' h ⟨⟨h1',hn1⟩,?_⟩
 (have F:=@lh;refine stq F 6 ?_;refine stq F 7 ?_;refine stq F 8 ?_;refine stq F 9 ?_;refine stq F 10 ?_;clear F)
 (refine s_done (by kernel_rfl) ?_;(refine dd1 @h1' ?_))
 refine pendL ?_
 rfl
end
theorem dIf_cut {P:Program} {f:Fm} {S:St} {Q:DQ} {b:Bool} {x y:Code} {k:Fm→St→Prop} (J:Fm→St→Prop) (h:dIf (.v (.bool b)) (dwpF P x (DQ.then J Q) f S) (dwpF P y (DQ.then J Q) f S)) (hk:∀ f' S',J f' S'→k f' S'):dIf (.v (.bool b)) (dwpF P x (DQ.then k Q) f S) (dwpF P y (DQ.then k Q) f S):=by
 have key:∀ c:Code,dwp P c (DQ.then J Q) f S→dwp P c (DQ.then k Q) f S:=fun c hc=>dwp_mono c (fun e f' S' hq=>by
  cases e with
  | normal=>exact hk _ _ hq
  | exit i=>exact hq
  | ret=>exact hq) hc
 exact ⟨fun e=>key x (h.1 e),fun e=>key y (h.2 e)⟩
theorem RegX.bes {k:Nat} {G:Nat→Prop} {ns:List H32} {vs:List DVer} {ms:List (H32 × Nat)} {bes bes':Nat→List Nat} {S:St} (h:RegX k G ns vs ms bes S) (hb:∀ i,i<vs.length→bes' i=bes i):RegX k G ns vs ms bes' S:=by
 obtain ⟨ow,d,es,o,b,j,h1,h2,h3,h4,⟨h5,h6⟩,h8,h9⟩:=h
 exact ⟨ow,d,es,o,b,j,h1,h2,h3,h4,⟨h5,fun i hi=>by rw [hb i hi];exact h6 i hi⟩,fun i hi=>by rw [hb i hi];exact h8 i hi,h9⟩
theorem lcs_len (l:DLens) (t:DSch) (x:D):((encL l).cells++((encS t).cells++[x])).length=24:=by
 simp only [List.length_append,cells_encL,cells_encS,List.length_singleton]
theorem lcs_set (l:DLens) (t:DSch) (x y:D):((encL l).cells++((encS t).cells++[x])).take 23++[y]++((encL l).cells++((encS t).cells++[x])).drop 24=(encL l).cells++((encS t).cells++[y]):=by
 have h1:=cells_encL l
 have h2:=cells_encS t
 rw [List.take_append,List.take_of_length_le (by omega),h1,List.take_append,List.take_of_length_le (by omega),h2,List.drop_of_length_le (by rw [lcs_len];omega)]
 simp
theorem verCs_bes (v:DVer) (o:Own) (b:List Nat):(verCs v o b).getD 24 undefD=.sl o (b.map nD):=by
 have h1:=cells_encL v.lens
 have h2:=cells_encS v.sch
 simp only [verCs,List.getD_cons_succ]
 rw [List.getD_eq_getElem?_getD,List.getElem?_append_right (by omega),List.getElem?_append_right (by omega),h1,h2]
 rfl
theorem verCs_put (v:DVer) (o o':Own) (b b':List Nat):verCs v o' b'=(verCs v o b).take 24++[.sl o' (b'.map nD)]++(verCs v o b).drop (24+1):=by
 simp only [verCs,List.take_succ_cons,List.drop_succ_cons,List.cons_append]
 rw [lcs_set]
theorem take_verCs (v:DVer) (o:Own) (b:List Nat):(verCs v o b).take 25=verCs v o b:=List.take_of_length_le (by rw [verCs_len];omega)
theorem cl_verD (v:DVer) (o:Own) (b:List Nat):(verD v o b).cells.length=25:=verCs_len v o b
theorem agg_verCs (v:DVer) (o:Own) (b:List Nat):D.agg (verCs v o b)=verD v o b:=rfl
theorem dapp_is {S:St} {ty:TypeId} {own own2:Own} {es:List D} {o:D} {K:D→St→Prop} (h:own=.full∨∃ g,own=.row g∧S.ob g=some (.row 3 es.length)) (hl:es.length≤1000000) (hw:∀ d∈es,d.width=1) (ho:o.width=1)
  (k:K (.sl (.row S.next) (es++[o])) (S.grow own 3 (es.length+1))):dapp Tryz.prog S 78 78 ty (.sl own es) (.sl own2 [o]) K:=by
 refine dapp_row ?_
 simp only [dappend,elIs,zeIs,byIs,szIs,true_and,Option.isSome_some,List.length_cons,List.length_nil]
 refine ⟨hw,fun d hd=>by obtain rfl:=List.mem_singleton.1 hd;exact ho,?_,by omega,by omega,k⟩
 rcases h with rfl | ⟨g,rfl,h⟩
 ·trivial
 ·exact h
theorem dapp_hsR {S:St} {ty:TypeId} {own own2:Own} {es:List D} {o:D} {K:D→St→Prop} (h:(own=.full∧es=[])∨∃ g,own=.row g∧S.ob g=some (.row 39 es.length)) (hl:es.length≤1000000) (hw:∀ d∈es,d.width=32) (ho:o.width=32)
  (k:K (.sl (.row S.next) (es++[o])) (S.grow own 39 (es.length+1))):dapp Tryz.prog S 35 35 ty (.sl own es) (.sl own2 [o]) K:=by
 refine dapp_row ?_
 simp only [dappend,elHs,zeHs,byHs,szHs,true_and,Option.isSome_some,List.length_cons,List.length_nil]
 refine ⟨hw,fun d hd=>by obtain rfl:=List.mem_singleton.1 hd;exact ho,?_,by omega,by omega,k⟩
 rcases h with ⟨rfl,rfl⟩ | ⟨g,rfl,h⟩
 ·trivial
 ·exact h
theorem wN (l:List Nat):∀ d∈l.map nD,d.width=1:=fun d hd=>by obtain ⟨x,_,rfl⟩:=List.mem_map.1 hd;rfl
section
set_option maxRecDepth 200000
set_option maxHeartbeats 8000000
theorem reg_a {S:St} {k:Nat} {F:Nat→Prop} {vs:List DVer} (hr:RegAt k F vs S) (v:DVer) (hw:WfR vs) (hv:v.up=-1∧vs=[]∨0≤v.up∧v.up<(vs.length:Int)) (hf:findR vs v.name=none) (hl:vs.length≤1000000) :
  DCalls Tryz.prog 41 [.loc k 0,encH v.name,verD v .full []] S (fun d T=>d=.tup []∧∃ F',RegAt k F' (vs++[v]) T∧(∀ q,F' q→F q∨S.next≤q)∧FrN F S T):=by
 refine dcalls_inline mixed Tryz.func41 rfl (fun _ _=>by kernel_rfl) (rs:=[]) rfl (by kernel_rfl) (fun hS=>?_)
 have hkl:=hr.lt k hr.fk
 obtain ⟨ow,d,es,o,b,j,h1,h2,⟨h3,h4⟩,⟨h5,h6⟩,h7,h8,h9⟩:=hr.ex
 have hjl:=hr.lt j h6
 (refine dd3 @verD.eq_1 @verCs.eq_1 @h1 ?_)
 refine dIf_cut (fun f' T=>T.WF∧f' 0=.loc k 0∧f' 4=.loc S.next 0∧f' 5=.loc (S.next+1) 0∧f' 6=.v (.int .i64 ((vs.length:Nat):Int))∧T.ob S.next=some (.box 39 (v.name.1.map bD))∧T.ob (S.next+1)=some (.box 99 (verCs v .full (besL (vs++[v]) vs.length))) ∧
  RegX k (fun q=>F q∨S.next+2≤q) (vs.map (·.name)) vs (namesR vs) (besL (vs++[v])) T∧FrN F S T) ?_ ?_
 ·refine dIf_both (fun hb=>?_) (fun hb=>?_)
  ·have hup:0≤v.up∧v.up<(vs.length:Int):=by
    have:=of_decide_eq_true hb
    rcases hv with hv | hv
    ·omega
    ·exact hv
   obtain ⟨p,hp⟩:∃ p:Nat,v.up=(p:Int):=⟨v.up.toNat,by omega⟩
   have hpl:p<vs.length:=by omega
   (refine dd3 @h1 @hp @lcs_set ?_)
   refine ⟨by rw [lcs_len];omega,?_⟩
   generalize hX:St.set (St.add (St.add S _) _) _ _=S1
   have hs1:S.Sub S1:=by rw [← hX];exact ((((St.Sub.refl S).add hS _).add hS _).set hS (Nat.le_succ _) _)
   have hW1:S1.WF:=by rw [← hX];exact St.WF.set ((hS.add _).add _) (Nat.lt_succ_self _) _
   have hn1:S1.next=S.next+2:=by rw [← hX];rfl
   have n0:S1.ob S.next=some (.box 39 (v.name.1.map bD)):=by rw [← hX];exact di0
   have n1:S1.ob (S.next+1)=some (.box 99 (.v (.int .i64 (p:Int))::((encL v.lens).cells++((encS v.sch).cells++[.sl .full [.v (.int .i64 (p:Int))]])))):=by rw [← hX];exact di0
   clear hX
   have k1:=hs1.ob _ _ h1
   rcases h3 with ⟨rfl,_⟩ | ⟨q,c,zs,rfl,hq,hz,hqn⟩
   ·have:=h7.1;simp at this;omega
   have hqF:=h4 _ _ _ rfl
   have hwE:∀ d∈es,d.width=25:=fun d hd=>by
    obtain ⟨i,hi,rfl⟩:=List.getElem_of_mem hd
    have h8:=h7.2 i (by rw [← h7.1];exact hi)
    rw [List.getElem?_eq_getElem hi] at h8
    rw [Option.some.inj h8]
    exact width_verD _ _ _
   have hc:0<c:=by
    rw [szVs,List.length_append,dflat_length hwE,h7.1] at hz;omega
   rw [ownOb_box hc] at hq
   have q1:=hs1.ob _ _ hq
   have hpe:=h7.2 p hpl
   have hget:=flatR_get (j:=24) hwE hpe (by omega) zs
   rw [show (verD vs[p] (o p) (besL vs p)).cells=verCs vs[p] (o p) (besL vs p) from rfl,verCs_bes] at hget
   have hfit:=flatR_fit hwE hpe zs
   have hel:es.length=vs.length:=h7.1
   refine ddraw_any (fun S'=>S'.ob k=some (.box 95 [.sl ow ((vs.map (·.name)).map encH),.win q 0 es.length c,.v (.map (some b))])∧S'.ob (S.next+1)=some (.box 99 (.v (.int .i64 (p:Int))::((encL v.lens).cells++((encS v.sch).cells++[.sl .full [.v (.int .i64 (p:Int))]]))))∧S'.ob q=some (.box 99 (flat es++zs))) 20 (by exact di5 @k1 @n1 @q1 @true_and @and_true) (by kernel_rfl) ?_
   (have F:=@hel;refine stq F 0 ?_;refine stq F 1 ?_;refine stq F 2 ?_;refine stq F 3 ?_;refine stq F 4 ?_;refine stq F 5 ?_;refine stq F 6 ?_;refine stq F 7 ?_;refine stq F 8 ?_;refine stq F 9 ?_;refine stq F 10 ?_;refine stq F 11 ?_;refine stq F 12 ?_;refine stq F 13 ?_;clear F)
   (have F:=@hget;refine stq F 14 ?_;clear F)
   (have F:=@hel;refine stq F 15 ?_;refine stq F 16 ?_;clear F)
   (refine s_one 17 ?_;(refine dd0 ?_))
   have hop:o p=.full∨∃ g,o p=.row g∧S1.ob g=some (.row 3 ((besL vs p).map nD).length):=by
    rcases h8 p hpl with e | ⟨g,g1,g2,g3⟩
    ·exact .inl e
    ·exact .inr ⟨g,g2,by rw [List.length_map];exact hs1.ob _ _ g3⟩
   have hbl:=besL_len vs p
   refine dapp_is hop (by rw [List.length_map];omega) (wN _) rfl ?_
   have hgk:∀ j t cs,S1.ob j=some (.box t cs)→(S1.grow (o p) 3 (((besL vs p).map nD).length+1)).ob j=some (.box t cs):=fun j t cs e=>growR_keep hW1 e fun g eg ej=>by
    subst ej
    rcases hop with e2 | ⟨g2,e2,e3⟩
    ·rw [e2] at eg;cases eg
    ·rw [e2] at eg;injection eg with eg;subst eg;rw [e] at e3;cases e3
   have z1:=hgk _ _ _ k1
   have z2:=hgk _ _ _ n1
   have z3:=hgk _ _ _ q1
   refine ⟨⟨z1,z2,z3⟩,?_⟩
   (have F:=@hel;refine stq F 18 ?_;refine stq F 19 ?_;clear F)
   have hset:=flatR_set (a:=24) hwE hpe (by omega) zs (x:=.sl (.row S1.next) ((besL vs p).map nD++[.v (.int .i64 ((vs.length:Nat):Int))])) (e':=verD vs[p] (.row S1.next) (besL vs p++[vs.length])) (by
    show verCs _ _ _=_
    rw [verCs_put vs[p] (o p) (.row S1.next) (besL vs p) (besL vs p++[vs.length]),List.map_append]
    rfl)
   rw [List.length_map] at z1 z2 z3
   (refine s_done (by kernel_rfl) ?_;(refine dd4 @z1 @z2 @z3 @hset ?_))
   have hW2:(S1.grow (o p) 3 ((besL vs p).length+1)).WF:=growR_WF hW1
   have hn2:(S1.grow (o p) 3 ((besL vs p).length+1)).next=S1.next+1:=grow_next _ _ _ _
   have hnew:(S1.grow (o p) 3 ((besL vs p).length+1)).ob S1.next=some (.row 3 ((besL vs p).length+1)):=growR_new
   have hold:∀ j' o',S1.ob j'=some o'→(∀ g,o p=.row g→j' ≠ g)→(S1.grow (o p) 3 ((besL vs p).length+1)).ob j'=some o':=fun j' o' e hh=>growR_keep hW1 e hh
   generalize S1.grow (o p) 3 ((besL vs p).length+1)=T2 at *
   have hq2:=hW2.lt z3
   have hkq:k ≠ q:=fun e=>by subst e;rw [h1] at hq;cases hq
   have hjq:j ≠ q:=fun e=>by subst e;rw [h5] at hq;cases hq
   have hopF:∀ g,o p=.row g→F g∧S1.ob g=some (.row 3 (besL vs p).length):=fun g eg=>by
    rcases h8 p hpl with e | ⟨g',g1,g2,g3⟩
    ·rw [e] at eg;cases eg
    ·rw [g2] at eg;injection eg with eg;subst eg;exact ⟨g1,hs1.ob _ _ g3⟩
   have hb1:besL (vs++[v]) vs.length=[p]:=by rw [besL_new hw hup.1 hup.2,hp];rfl
   have hbo:∀ i,i<vs.length→besL (vs++[v]) i=besL vs i++(if i=p then [vs.length] else []):=fun i hi=>by
    rw [besL_old hw hi hup.2,hp]
    congr 1
    by_cases e:i=p
    ·rw [if_pos e,if_pos (by rw [e])]
    ·rw [if_neg e,if_neg (fun e2=>e (by omega))]
   have hset3:∀ j' o',T2.ob j'=some o'→j' ≠ q→∀ X,(T2.set q X).ob j'=some o':=fun j' o' e hh X=>by simp only [St.set];rw [if_neg hh];exact e
   refine ⟨hW2.set hq2 _,hold _ _ n0 (fun g eg=>by have:=(hopF g eg).1;have:=hr.lt g this;omega),?_,?_,?_⟩
   ·rw [hb1]
    show _=some (Ob.box 99 (.v (.int .i64 v.up)::_))
    rw [hp]
    rfl
   ·refine ⟨ow,.win q 0 es.length c,es.set p (verD vs[p] (.row S1.next) (besL vs p++[vs.length])),fun i=>if i=p then .row S1.next else o i,b,j,hset3 _ _ z1 hkq _,?_,⟨.inr ⟨q,c,zs,by rw [List.length_set],?_,?_,hq2⟩,fun q' n' c' e=>?_⟩,⟨hset3 _ _ (hold _ _ (hs1.ob _ _ h5) fun g eg ej=>?_) hjq _,.inl h6⟩,⟨by rw [List.length_set];exact h7.1,fun i hi=>?_⟩,fun i hi=>?_,fun i i' g hi hi' e1 e2=>?_⟩
    ·rcases h2 with h2 | ⟨g,g1,g2,g3⟩
     ·exact .inl h2
     ·refine .inr ⟨g,.inl g1,g2,hset3 _ _ (hold _ _ (hs1.ob _ _ g3) fun g' eg ej=>?_) (fun e=>?_) _⟩
      ·subst ej
       have:=(hopF _ eg).2
       rw [hs1.ob _ _ g3] at this
       cases this
      ·subst e;rw [g3] at hq;cases hq
    ·rw [ownOb_box hc];simp [St.set]
    ·rw [szVs] at hz ⊢
     have hw2:∀ d∈es.set p (verD vs[p] (.row S1.next) (besL vs p++[vs.length])),d.width=25:=fun d hd=>by
      rcases List.mem_or_eq_of_mem_set hd with h | h
      ·exact hwE d h
      ·rw [h];exact width_verD _ _ _
     rw [List.length_append,dflat_length hw2,List.length_set,← dflat_length hwE,← List.length_append]
     exact hz
    ·injection e with e;subst e;exact .inl hqF
    ·subst ej
     have:=(hopF _ eg).2
     rw [hs1.ob _ _ h5] at this
     cases this
    ·rw [hbo i hi]
     show _=some (verD vs[i] (if i=p then _ else _) _)
     by_cases e:i=p
     ·subst e
      rw [if_pos rfl,if_pos rfl,List.getElem?_set_self (by omega)]
     ·rw [if_neg e,if_neg e,List.append_nil,List.getElem?_set_ne (fun h=>e h.symm)]
      exact h7.2 i hi
    ·rw [hbo i hi]
     by_cases e:i=p
     ·subst e
      simp only [if_true]
      refine .inr ⟨S1.next,.inr (by omega),rfl,hset3 _ _ ?_ (by have:=hr.lt q hqF;omega) _⟩
      rw [List.length_append]
      exact hnew
     ·simp only [if_neg e,List.append_nil]
      rcases h8 i hi with h | ⟨g,g1,g2,g3⟩
      ·exact .inl h
      ·refine .inr ⟨g,.inl g1,g2,hset3 _ _ (hold _ _ (hs1.ob _ _ g3) fun g' eg ej=>?_) (fun e=>?_) _⟩
       ·subst ej
        exact e (h9 i p g hi hpl g2 eg)
       ·subst e;rw [g3] at hq;cases hq
    ·simp only at e1 e2
     split at e1 <;> split at e2
     ·rename_i a1 a2;rw [a1,a2]
     ·injection e1 with e1;subst e1
      rcases h8 i' hi' with h | ⟨g,g1,g2,g3⟩
      ·rw [h] at e2;cases e2
      ·rw [g2] at e2;injection e2 with e2;have:=hr.lt g g1;omega
     ·injection e2 with e2;subst e2
      rcases h8 i hi with h | ⟨g,g1,g2,g3⟩
      ·rw [h] at e1;cases e1
      ·rw [g2] at e1;injection e1 with e1;have:=hr.lt g g1;omega
     ·exact h9 i i' g hi hi' e1 e2
   ·refine ⟨fun j' o' hj' e=>hset3 _ _ (hold _ _ (hs1.ob _ _ e) fun g eg ej=>?_) (fun e2=>hj' (e2 ▸ hqF)) _,by show S.next≤T2.next;omega⟩
    subst ej
    exact hj' (hopF _ eg).1
  ·have hup:v.up=-1∧vs=[]:=by
    have:=of_decide_eq_false hb
    rcases hv with hv | hv
    ·exact hv
    ·omega
   obtain ⟨hup,rfl⟩:=hup
   (refine dd1 @h1 ?_)
   have hsub:S.Sub ((S.add (.box 39 (v.name.1.map bD))).add (.box 99 (.v (.int .i64 v.up)::((encL v.lens).cells++((encS v.sch).cells++[.sl .full []]))))):=((St.Sub.refl S).add hS _).add hS _
   refine ⟨(hS.add _).add _,by rw [besL_root hup];rfl,?_,FrN.of_sub hsub⟩
   exact (RegX.bes hr.ex (fun i hi=>absurd hi (by simp))).mono hr.fk (fun q h=>.inl h) (fun q o _ e=>hsub.ob q o e) hsub.next
 ·rintro f' T ⟨hT,f0,f4,f5,f6,t0,t1,⟨ow2,d2,es2,o2,b2,j2,g1,g2,⟨g3,g4⟩,⟨g5,g6⟩,⟨g7,g7'⟩,g8,g9⟩,hfr⟩
  (refine dd7 @f0 @f4 @f5 @f6 @t0 @t1 @g1 ?_)
  have ln:=v.name.2
  refine ddraw_any (fun S'=>S'.ob k=some (.box 95 [.sl ow2 ((vs.map (·.name)).map encH),d2,.v (.map (some b2))])∧S'.ob S.next=some (.box 39 (v.name.1.map bD))) 6 (by exact di4 @g1 @t0 @true_and @and_true) (by kernel_rfl) ?_
  (have F:=pk4 @f0 @f4 @f6 @ln;refine stq F 0 ?_;refine stq F 1 ?_;refine stq F 2 ?_;refine stq F 3 ?_;refine stq F 4 ?_;refine stq F 5 ?_;clear F)
  (refine s_done (by kernel_rfl) ?_;(refine dd4 @f0 @f4 @f5 @f6 ?_))
  refine dput_hash g5 v.name vs.length hf ?_
  have hkl2:=hT.lt g1
  have hjl2:=hT.lt g5
  have hkj:k ≠ j2:=fun e=>by subst e;rw [g1] at g5;cases g5
  have n0j:S.next ≠ j2:=fun e=>by subst e;rw [t0] at g5;cases g5
  have n1j:S.next+1 ≠ j2:=fun e=>by rw [e] at t1;rw [t1] at g5;cases g5
  have m1:∀ X,(T.set j2 X).ob k=some (.box 95 [.sl ow2 ((vs.map (·.name)).map encH),d2,.v (.map (some b2))]):=fun X=>by simp only [St.set];rw [if_neg hkj];exact g1
  have m2:∀ X,(T.set j2 X).ob S.next=some (.box 39 (v.name.1.map bD)):=fun X=>by simp only [St.set];rw [if_neg n0j];exact t0
  have m3:∀ X,(T.set j2 X).ob (S.next+1)=some (.box 99 (verCs v .full (besL (vs++[v]) vs.length))):=fun X=>by simp only [St.set];rw [if_neg n1j];exact t1
  (refine dd7 @f0 @f4 @f5 @f6 @m1 @m2 @m3 ?_)
  rw [← namesR_snoc]
  generalize hX:St.set T j2 _=T1
  have keep:∀ j' o',T.ob j'=some o'→j' ≠ j2→T1.ob j'=some o':=fun j' o' e hh=>by rw [← hX];simp only [St.set];rw [if_neg hh];exact e
  have hTn:T1.next=T.next:=by rw [← hX];rfl
  have hT1:T1.WF:=by rw [← hX];exact hT.set hjl2 _
  have g5':T1.ob j2=some (.mp b2 (mapL (namesR (vs++[v])))):=by rw [← hX];simp [St.set]
  have g1':=keep _ _ g1 hkj
  have t0':=keep _ _ t0 n0j
  have t1':=keep _ _ t1 n1j
  have g2':ow2=.full∧vs.map (·.name)=[]∨∃ g,(F g∨S.next+2≤g)∧ow2=.row g∧T1.ob g=some (.row 39 (vs.map (·.name)).length):=by
   rcases g2 with h | ⟨g,q1,q2,q3⟩
   ·exact .inl h
   ·exact .inr ⟨g,q1,q2,keep _ _ q3 fun e=>by subst e;rw [q3] at g5;cases g5⟩
  have g3':OwnD Tryz.prog T1 99 es2 d2:=by
   rcases g3 with h | ⟨q,c,zs,rfl,q1,q2,q3⟩
   ·exact .inl h
   ·refine .inr ⟨q,c,zs,rfl,keep _ _ q1 fun e=>?_,q2,by rw [hTn];exact q3⟩
    subst e
    rw [g5] at q1
    cases c <;> cases q1
  have g8':∀ i,i<vs.length→o2 i=.full∨∃ g,(F g∨S.next+2≤g)∧o2 i=.row g∧T1.ob g=some (.row 3 (besL (vs++[v]) i).length):=fun i hi=>by
   rcases g8 i hi with h | ⟨g,q1,q2,q3⟩
   ·exact .inl h
   ·exact .inr ⟨g,q1,q2,keep _ _ q3 fun e=>by subst e;rw [q3] at g5;cases g5⟩
  have hfr1:FrN F S T1:=⟨fun j' o' hj' e=>keep _ _ (hfr.ob j' o' hj' e) fun e2=>by
   subst e2
   rcases g6 with h | h
   ·exact hj' h
   ·have:=hS.lt e;omega,by rw [hTn];exact hfr.next⟩
  have hTn2:S.next+2≤T1.next:=by have:=hT1.lt t1';omega
  clear g1 g2 g3 g5 g8 hfr keep hX t0 t1 m1 m2 m3 hT hjl2 hkl2 hTn
  refine ddraw_any (fun S'=>S'.ob k=some (.box 95 [.sl ow2 ((vs.map (·.name)).map encH),d2,.v (.map (some b2))])∧S'.ob S.next=some (.box 39 (v.name.1.map bD))) 10 (by exact di4 @g1' @t0' @true_and @and_true) (by kernel_rfl) ?_
  (have F:=pk4 @f0 @f4 @f6 @ln;refine stq F 0 ?_;refine stq F 1 ?_;refine stq F 2 ?_;refine stq F 3 ?_;refine stq F 4 ?_;refine stq F 5 ?_;refine stq F 6 ?_;clear F)
  (refine s_one 7 ?_;(refine dd0 ?_))
  have hnl:(vs.map (·.name)).length=vs.length:=List.length_map _
  have hrow:(ow2=.full∧(vs.map (·.name)).map encH=[])∨∃ g,ow2=.row g∧T1.ob g=some (.row 39 ((vs.map (·.name)).map encH).length):=by
   rcases g2' with ⟨e1,e2⟩ | ⟨g,q1,q2,q3⟩
   ·exact .inl ⟨e1,by rw [e2];rfl⟩
   ·exact .inr ⟨g,q2,by rw [List.length_map];exact q3⟩
  refine dapp_hsR hrow (by rw [List.length_map,hnl];omega) (fun d hd=>by obtain ⟨x,_,rfl⟩:=List.mem_map.1 hd;exact width_encH x) (width_encH _) ?_
  have keep:∀ j' o',T1.ob j'=some o'→(∀ n,o' ≠ .row 39 n)∨¬ (F j'∨S.next+2≤j')→(T1.grow ow2 39 (((vs.map (·.name)).map encH).length+1)).ob j'=some o':=fun j' o' e hh=>growR_keep hT1 e fun g eg ej=>by
   subst ej
   rcases g2' with ⟨e1,e2⟩ | ⟨g,q1,q2,q3⟩
   ·rw [e1] at eg;cases eg
   ·rw [q2] at eg
    injection eg with eg
    subst eg
    rcases hh with hh | hh
    ·rw [e] at q3;injection q3 with q3;exact hh _ q3
    ·exact hh q1
  have z1:=keep _ _ g1' (.inl fun n h=>by cases h)
  have z2:=keep _ _ t0' (.inl fun n h=>by cases h)
  have z3:=keep _ _ t1' (.inl fun n h=>by cases h)
  have z4:=keep _ _ g5' (.inl fun n h=>by cases h)
  have z5:OwnD Tryz.prog (T1.grow ow2 39 (((vs.map (·.name)).map encH).length+1)) 99 es2 d2:=by
   rcases g3' with h | ⟨q,c,zs,rfl,q1,q2,q3⟩
   ·exact .inl h
   ·exact .inr ⟨q,c,zs,rfl,keep _ _ q1 (.inl fun n h=>by cases c <;> cases h),q2,by rw [grow_next];omega⟩
  have z6:∀ i,i<vs.length→o2 i=.full∨∃ g,(F g∨S.next+2≤g)∧o2 i=.row g∧(T1.grow ow2 39 (((vs.map (·.name)).map encH).length+1)).ob g=some (.row 3 (besL (vs++[v]) i).length):=fun i hi=>by
   rcases g8' i hi with h | ⟨g,q1,q2,q3⟩
   ·exact .inl h
   ·exact .inr ⟨g,q1,q2,keep _ _ q3 (.inl fun n h=>by cases h)⟩
  have z7:(T1.grow ow2 39 (((vs.map (·.name)).map encH).length+1)).ob T1.next=some (.row 39 (((vs.map (·.name)).map encH).length+1)):=growR_new
  have z8:FrN F S (T1.grow ow2 39 (((vs.map (·.name)).map encH).length+1)):=⟨fun j' o' hj' e=>keep _ _ (hfr1.ob j' o' hj' e) (.inr fun h=>by
   rcases h with h | h
   ·exact hj' h
   ·have:=hS.lt e;omega),by rw [grow_next];have:=hfr1.next;omega⟩
  have hT2:(T1.grow ow2 39 (((vs.map (·.name)).map encH).length+1)).WF:=growR_WF hT1
  have hn2:(T1.grow ow2 39 (((vs.map (·.name)).map encH).length+1)).next=T1.next+1:=grow_next _ _ _ _
  refine ⟨⟨z1,z2⟩,?_⟩
  (have F:=pk4 @f0 @f4 @f6 @ln;refine stq F 8 ?_;refine stq F 9 ?_;clear F)
  clear g1' g2' g3' g5' g8' t0' t1' hfr1 hrow keep
  simp only [List.length_map] at z1 z2 z3 z4 z5 z6 z7 z8 hT2 hn2 ⊢
  generalize T1.grow ow2 39 (vs.length+1)=T2 at *
  (refine s_done (by kernel_rfl) ?_;(refine dd3 @z1 @z2 @z3 ?_))
  have hkn:k<T2.next:=hT2.lt z1
  have hkF:=hr.fk
  generalize hX:St.set T2 k _=T3
  have keep:∀ j' o',T2.ob j'=some o'→j' ≠ k→T3.ob j'=some o':=fun j' o' e hh=>by rw [← hX];simp only [St.set];rw [if_neg hh];exact e
  have hTn:T3.next=T2.next:=by rw [← hX];rfl
  have hT3:T3.WF:=by rw [← hX];exact hT2.set hkn _
  have y1:T3.ob k=some (.box 95 [.sl (.row T1.next) ((vs.map (·.name)).map encH++[encH v.name]),d2,.v (.map (some b2))]):=by rw [← hX];simp [St.set]
  have y3:=keep _ _ z3 (by omega)
  have y4:=keep _ _ z4 (fun e=>hkj e.symm)
  have y5:OwnD Tryz.prog T3 99 es2 d2∧∀ q n c,d2=.win q 0 n c→q ≠ k:=by
   rcases z5 with ⟨e1,rfl⟩ | ⟨q,c,zs,rfl,q1,q2,q3⟩
   ·exact ⟨.inl ⟨e1,rfl⟩,fun _ _ _ e=>by cases e⟩
   ·have hqk:q ≠ k:=fun e=>by subst e;rw [z1] at q1;cases c <;> cases q1
    exact ⟨.inr ⟨q,c,zs,rfl,keep _ _ q1 hqk,q2,by omega⟩,fun q' n' c' e=>by injection e with e;subst e;exact hqk⟩
  have y6:∀ i,i<vs.length→o2 i=.full∨∃ g,(F g∨S.next+2≤g)∧o2 i=.row g∧T3.ob g=some (.row 3 (besL (vs++[v]) i).length):=fun i hi=>by
   rcases z6 i hi with h | ⟨g,q1,q2,q3⟩
   ·exact .inl h
   ·exact .inr ⟨g,q1,q2,keep _ _ q3 fun e=>by subst e;rw [z1] at q3;cases q3⟩
  have y7:T3.ob T1.next=some (.row 39 (vs.length+1)):=keep _ _ z7 fun e=>by rw [e,z1] at z7;cases z7
  have y8:FrN F S T3:=⟨fun j' o' hj' e=>keep _ _ (z8.ob j' o' hj' e) fun e2=>hj' (e2 ▸ hkF),by rw [hTn];exact z8.next⟩
  obtain ⟨y5,y9⟩:=y5
  clear z1 z2 z3 z4 z5 z6 z7 z8 keep hX
  have hwE:∀ d∈es2,d.width=szOf Tryz.prog 99:=fun d hd=>by
   obtain ⟨i,hi,rfl⟩:=List.getElem_of_mem hd
   have h8:=g7' i (by rw [← g7];exact hi)
   rw [List.getElem?_eq_getElem hi] at h8
   rw [Option.some.inj h8,szVs]
   exact width_verD _ _ _
  have lv:=verCs_len v .full (besL (vs++[v]) vs.length)
  refine ddraw_any (fun S'=>S'.ob k=some (.box 95 [.sl (.row T1.next) ((vs.map (·.name)).map encH++[encH v.name]),d2,.v (.map (some b2))])∧S'.ob (S.next+1)=some (.box 99 (verCs v .full (besL (vs++[v]) vs.length)))) 10 (by exact di4 @y1 @y3 @true_and @and_true) (by kernel_rfl) ?_
  (have F:=pk8 @f0 @f5 @lv @take_verCs @agg_verCs @okCell_verD @width_verD @cl_verD;refine stq F 0 ?_;refine stq F 1 ?_;refine stq F 2 ?_;refine stq F 3 ?_;refine stq F 4 ?_;refine stq F 5 ?_;refine stq F 6 ?_;clear F)
  (refine s_one 7 ?_;(refine dd0 ?_))
  refine dapp_ownD (es2:=[verD v .full (besL (vs++[v]) vs.length)]) elVs (by rw [elVs];rfl) zeVs zoVs y5 hwE (fun d hd=>by obtain rfl:=List.mem_singleton.1 hd;rw [szVs];exact width_verD _ _ _) (by rw [g7,List.length_singleton];omega) (by rw [g7,List.length_singleton];exact Nat.le_trans (Nat.mul_le_mul_left _ byVs) (by omega)) fun c' zs' hz=>?_
  have hlf:∀ j' o',T3.ob j'=some o'→(∀ q n c,d2=.win q 0 n c→j' ≠ q)→(T3.left d2).ob j'=some o':=fun j' o' e hh=>by
   rcases y5 with ⟨e1,rfl⟩ | ⟨q,c,zs,rfl,q1,q2,q3⟩
   ·exact e
   ·simp only [St.left,St.drop]
    rw [if_neg (hh _ _ _ rfl)]
    exact e
  have hlq:∀ q n c,d2=.win q 0 n c→∃ c zs,T3.ob q=some (ownOb 99 es2 zs c):=fun q n c e=>by
   rcases y5 with ⟨e1,rfl⟩ | ⟨q',c,zs,rfl,q1,q2,q3⟩
   ·cases e
   ·injection e with e;subst e;exact ⟨_,_,q1⟩
  have hln:(T3.left d2).next=T3.next:=by
   rcases y5 with ⟨e1,rfl⟩ | ⟨q,c,zs,rfl,q1,q2,q3⟩ <;> rfl
  have hlw:(T3.left d2).WF:=by
   rcases y5 with ⟨e1,rfl⟩ | ⟨q,c,zs,rfl,q1,q2,q3⟩
   ·exact hT3
   ·intro j' hj'
    simp only [St.left,St.drop]
    split
    ·rfl
    ·exact hT3 j' hj'
  have keep:∀ j' o' X,T3.ob j'=some o'→(∀ q n c,d2=.win q 0 n c→j' ≠ q)→((T3.left d2).add X).ob j'=some o':=fun j' o' X e hh=>by
   simp only [St.add]
   rw [if_neg (by have:=hT3.lt e;omega)]
   exact hlf j' o' e hh
  have z1:=fun X=>keep _ _ X y1 fun q n c e=>(y9 q n c e).symm
  have z3:=fun X=>keep _ _ X y3 fun q n c e ej=>by
   obtain ⟨c2,zs2,e2⟩:=hlq q n c e
   have:=g4 q n c e
   subst ej
   rcases this with h | h
   ·have:=hr.lt _ h;omega
   ·omega
  refine ⟨⟨z1 _,z3 _⟩,?_⟩
  (have F:=pk3 @f0 @f5 @lv;refine stq F 8 ?_;refine stq F 9 ?_;clear F)
  (refine s_done (by kernel_rfl) ?_;(refine dd2 @z1 @z3 ?_))
  have hk3:=hT3.lt y1
  generalize hB:Ob.box 95 _=oB
  generalize hE:ownOb 99 (es2++[verD v .full (besL (vs++[v]) vs.length)]) zs' c'=oE
  have keepU:∀ j' o',T3.ob j'=some o'→(∀ q n c,d2=.win q 0 n c→j' ≠ q)→j' ≠ k→(((T3.left d2).add oE).set k oB).ob j'=some o':=fun j' o' e hh hk=>by
   simp only [St.set]
   rw [if_neg hk]
   exact keep j' o' oE e hh
  have hwin:∀ j' o',T3.ob j'=some o'→(∀ c zs,o' ≠ ownOb 99 es2 zs c)→∀ q n c,d2=.win q 0 n c→j' ≠ q:=fun j' o' e hh q n c e2 ej=>by
   subst ej
   obtain ⟨c2,zs2,e3⟩:=hlq _ _ _ e2
   rw [e] at e3
   exact hh _ _ (Option.some.inj e3)
  have hF3:∀ j' o',T3.ob j'=some o'→j'<T3.next+1:=fun j' o' e=>Nat.lt_succ_of_lt (hT3.lt e)
  have hnx:=y8.next
  refine ⟨fun q=>(F q∨S.next≤q)∧q<T3.next+1,⟨⟨.row T1.next,.win T3.next 0 (es2.length+1) c',es2++[verD v .full (besL (vs++[v]) vs.length)],fun i=>if i<vs.length then o2 i else .full,b2,j2,?_,.inr ⟨T1.next,⟨.inr (by omega),hF3 _ _ y7⟩,rfl,?_⟩,⟨.inr ⟨T3.next,c',zs',by rw [List.length_append,List.length_singleton],?_,hz,?_⟩,fun q n c e=>?_⟩,⟨keepU _ _ y4 (hwin _ _ y4 fun c zs e=>by cases c <;> cases e) (fun e=>hkj e.symm),g6.imp id (fun h=>by omega),hF3 _ _ y4⟩,⟨by rw [List.length_append,List.length_append,g7];rfl,fun i hi=>?_⟩,fun i hi=>?_,fun i i' g hi hi' e1 e2=>?_⟩,⟨.inl hkF,by omega⟩,fun q hq=>?_⟩,fun q hq=>hq.1,⟨fun j' o' hj' e=>?_,?_⟩⟩
  ·simp only [St.set,if_true]
   rw [← hB]
   simp
  ·rw [List.length_map,List.length_append,List.length_singleton]
   exact keepU _ _ y7 (hwin _ _ y7 fun c zs e=>by cases c <;> cases e) fun e=>by rw [e,y1] at y7;cases y7
  ·simp only [St.set,St.add]
   rw [if_neg (by omega),if_pos hln.symm,hE]
  ·show T3.next<(T3.left d2).next+1
   omega
  ·injection e with e
   subst e
   exact ⟨.inr (by omega),by omega⟩
  ·rw [List.length_append,List.length_singleton] at hi
   show _=some (verD _ (if i<vs.length then _ else _) _)
   by_cases h:i<vs.length
   ·rw [List.getElem?_append_left (by omega),g7' i h,List.getElem_append_left h,if_pos h]
   ·obtain rfl:i=vs.length:=by omega
    rw [List.getElem?_append_right (by omega),g7,Nat.sub_self,if_neg h]
    simp
  ·rw [List.length_append,List.length_singleton] at hi
   by_cases h:i<vs.length
   ·simp only [if_pos h]
    rcases y6 i h with h | ⟨g,q1,q2,q3⟩
    ·exact .inl h
    ·exact .inr ⟨g,⟨q1.imp id (fun h=>by omega),hF3 _ _ q3⟩,q2,keepU _ _ q3 (hwin _ _ q3 fun c zs e=>by cases c <;> cases e) fun e=>by subst e;rw [y1] at q3;cases q3⟩
   ·left
    exact if_neg h
  ·simp only at e1 e2
   split at e1
   ·split at e2
    ·rename_i a1 a2
     exact g9 i i' g a1 a2 e1 e2
    ·cases e2
   ·cases e1
  ·show q<(T3.left d2).next+1
   rw [hln]
   exact hq.2
  ·refine keepU _ _ (y8.ob j' o' hj' e) (fun q n c e2 ej=>?_) (fun e2=>hj' (e2 ▸ hkF))
   subst ej
   rcases g4 _ _ _ e2 with h | h
   ·exact hj' h
   ·have:=hS.lt e;omega
  ·show S.next≤(T3.left d2).next+1
   omega
end
theorem RegAt.open {k:Nat} {F:Nat→Prop} {vs:List DVer} {S:St} (h:RegAt k F vs S) (hne:0<vs.length):∃ (ow:Own) (b q c:Nat) (es zs:List D) (o:Nat→Own),
  S.ob k=some (.box 95 [.sl ow ((vs.map (·.name)).map encH),.win q 0 vs.length c,.v (.map (some b))])∧S.ob q=some (.box 99 (flat es++zs))∧F q∧es.length=vs.length∧(∀ d∈es,d.width=25) ∧
  (∀ i (hi:i<vs.length),es[i]? = some (verD vs[i] (o i) (besL vs i))):=by
 obtain ⟨ow,d,es,o,b,j,h1,h2,⟨h3,h4⟩,⟨h5,h6⟩,h7,h8,h9⟩:=h.ex
 have hwE:∀ d∈es,d.width=25:=fun d hd=>by
  obtain ⟨i,hi,rfl⟩:=List.getElem_of_mem hd
  have h8:=h7.2 i (by rw [← h7.1];exact hi)
  rw [List.getElem?_eq_getElem hi] at h8
  rw [Option.some.inj h8]
  exact width_verD _ _ _
 rcases h3 with ⟨rfl,_⟩ | ⟨q,c,zs,rfl,hq,hz,hqn⟩
 ·have:=h7.1;simp at this;omega
 ·have hc:0<c:=by
   rw [szVs,List.length_append,dflat_length hwE,h7.1] at hz;omega
  rw [ownOb_box hc] at hq
  rw [h7.1] at h1
  exact ⟨ow,b,q,c,es,zs,o,h1,hq,h4 _ _ _ rfl,h7.1,hwE,h7.2⟩
structure ReachI (g:FuncId) (cs:List D) (k:Nat) (F:Nat→Prop) (vs:List DVer) (I:(Nat→Prop)→List (Nat × Nat)→St→Prop):Prop where
 call:∀ G e S a b,e.length≤vs.length→S.WF→a<vs.length→b<vs.length→RegAt k F vs S→I G e S→(∀ q,F q→¬ G q)→DCalls Tryz.prog g (nD a::nD b::cs) S (fun d T=>d=.tup []∧∃ G',I G' (e++[(a,b)]) T∧(∀ q,G' q→G q∨S.next≤q)∧FrN G S T)
 mono:∀ G e S T,I G e S→(∀ q o,G q→S.ob q=some o→T.ob q=some o)→S.next≤T.next→I G e T
 lt:∀ G e S,I G e S→∀ q,G q→q<S.next
def boolD (b:Bool):D:=.v (.bool b)
def seenL (n:Nat) (r:List Nat):List D:=(List.range n).map fun x=>boolD (decide (x∈r))
theorem seenL_len (n:Nat) (r:List Nat):(seenL n r).length=n:=by simp [seenL]
theorem seenL_get {n:Nat} {r:List Nat} {i:Nat} (h:i<n):(seenL n r).getD i undefD=boolD (decide (i∈r)):=by
 simp [seenL,List.getD,h]
theorem seenL_set {n:Nat} {r:List Nat} {i:Nat} (h:i<n):(seenL n r).take i++[boolD true]++(seenL n r).drop (i+1)=seenL n (r++[i]):=by
 apply List.ext_getElem?
 intro j
 by_cases hj:j<n
 ·have e2:(seenL n (r++[i]))[j]? = some (boolD (decide (j∈r++[i]))):=by simp [seenL,hj]
  have e1:(seenL n r)[j]? = some (boolD (decide (j∈r))):=by simp [seenL,hj]
  rw [e2]
  rcases Nat.lt_trichotomy j i with h1 | h1 | h1
  ·rw [List.append_assoc,List.getElem?_append_left (by simp [seenL_len];omega),List.getElem?_take_of_lt h1,e1]
   have:j ≠ i:=by omega
   simp [this]
  ·subst h1
   rw [List.append_assoc,List.getElem?_append_right (by rw [List.length_take];exact Nat.min_le_left _ _),List.length_take,seenL_len,Nat.min_eq_left (by omega),Nat.sub_self]
   simp
  ·rw [List.getElem?_append_right (by rw [List.length_append,List.length_take,seenL_len,List.length_singleton,Nat.min_eq_left (by omega)];omega),List.getElem?_drop,List.length_append,List.length_take,seenL_len,Nat.min_eq_left (by omega),List.length_singleton,show i+1+(j - (i+1))=j by omega,e1]
   have:j ≠ i:=by omega
   simp [this]
 ·rw [List.getElem?_eq_none (by simp [seenL_len];omega),List.getElem?_eq_none (by rw [seenL_len];omega)]
def NextAt (lo:Nat) (l:List Nat) (d:D) (T:St) (kn:Option Nat):Prop :=
 (d=.sl .full (l.map nD)∧kn=none)∨∃ k off c cs,d=.win k off l.length c∧kn=some k∧lo≤k∧T.ob k=some (.box 3 cs)∧l.length≤c∧off+c≤cs.length∧(cs.drop off).take l.length=l.map nD
theorem NextAt.mono {lo:Nat} {l:List Nat} {d:D} {T T':St} {kn:Option Nat} (h:NextAt lo l d T kn) (hs:∀ k o,kn=some k→T.ob k=some o→T'.ob k=some o):NextAt lo l d T' kn:=by
 rcases h with h | ⟨k,off,c,cs,h1,h2,h3,h4,h5⟩
 ·exact .inl h
 ·exact .inr ⟨k,off,c,cs,h1,h2,h3,hs _ _ h2 h4,h5⟩
theorem onV_cut {P:Program} {o:Option (Prop × D)} {ops:Array Oper} {R:Fm→St→Prop} {r:List Oper} {f:Fm} {S:St} {dst:Option Tmp} (J:Fm→St→Prop) (k:onValS o (dnext P ops J r f dst) S) (h:∀ f S,J f S→R f S):onValS o (dnext P ops R r f dst) S:=by
 cases o with
 | none=>exact k
 | some x=>rw [onValS_some] at k ⊢;exact ⟨k.1,dops_mono h r k.2⟩
theorem onV_cut2 {P:Program} {o:Option (Prop × D)} {ops:Array Oper} {x y:Code} {Q Q2:DQ} {r:List Oper} {f:Fm} {S:St} {dst:Option Tmp} (J:Fm→St→Prop) (k:onValS o (dnext P ops (fun f S=>dwp P x (DQ.then J Q) f S) r f dst) S) (h:∀ f S,J f S→dwp P y Q f S):onValS o (dnext P ops (DQ.then (dwp P (.seq x y) Q) Q2 .normal) r f dst) S :=
 onV_cut _ k fun f S hd=>dwp_mono x (fun e f' S' hq=>by
  cases e with
  | normal=>exact h _ _ hq
  | exit i=>exact hq
  | ret=>exact hq) hd
section
set_option maxRecDepth 200000
set_option maxHeartbeats 8000000
theorem elBs:elT Tryz.prog 116=some 4:=by kernel_rfl
theorem dapp_next {U:St} {lo:Nat} {l:List Nat} {x:Nat} {dn:D} {kn:Option Nat} {ty:TypeId} {o2:Own} {K:D→St→Prop} (hW:U.WF) (hn:NextAt lo l dn U kn) (hl:l.length≤1000000) (hlo:lo≤U.next)
  (hK:∀ dn' kn' U',U'.WF→NextAt lo (l++[x]) dn' U' kn'→(∀ q o,U.ob q=some o→kn ≠ some q→U'.ob q=some o)→U.next≤U'.next→(∀ q,kn'=some q→kn=some q∨U.next≤q)→K dn' U'):dapp Tryz.prog U 78 78 ty dn (.sl o2 [nD x]) K:=by
 have hw:∀ d∈[nD x],d.width=szOf Tryz.prog 3:=fun d hd=>by obtain rfl:=List.mem_singleton.1 hd;rw [szIs];rfl
 have hz:(elT Tryz.prog 78).isSome=true:=by rw [elIs];rfl
 have fresh:∀ (olds:List D),olds=l.map nD→∀ (c':Nat) (zs:List D),l.length+1≤c'→(olds++flat [nD x]++zs).length=c' * szOf Tryz.prog 3→K (.win U.next 0 (l.length+1) c') (U.add (.box 3 (olds++flat [nD x]++zs))):=fun olds he c' zs hc' hl'=>by
  subst he
  rw [szIs] at hl'
  have e1:flat [nD x]=[nD x]:=rfl
  rw [e1] at hl' ⊢
  refine hK _ (some U.next) _ (hW.add _) (.inr ⟨U.next,0,c',l.map nD++[nD x]++zs,by rw [List.length_append];rfl,rfl,hlo,by simp only [St.add,if_true],by rw [List.length_append];exact hc',by rw [Nat.zero_add];omega,?_⟩) (fun q o e _=>?_) (Nat.le_succ _) (fun q e=>.inr (by injection e with e;omega))
  ·rw [List.drop_zero,List.take_append_of_le_length (by simp),List.take_of_length_le (by simp),List.map_append]
   rfl
  ·have:=hW.lt e
   simp only [St.add]
   rw [if_neg (by omega)]
   exact e
 rcases hn with ⟨rfl,rfl⟩ | ⟨k,off,c,cs,rfl,rfl,hk1,hk2,hk3,hk4,hk5⟩
 ·have hfl:flat (l.map nD)=l.map nD:=by
   have:=flat_iD (l.map fun n:Nat=>(n:Int))
   rwa [List.map_map] at this
  refine dapp_nil elIs (dappend_new (n:=l.length) (c:=l.length) (m:=1) (olds:=l.map nD) (news:=flat [nD x]) elIs hz zeIs zoIs ⟨fun d hd=>by rw [szIs];exact wN l d hd,by rw [List.length_map],hfl.symm⟩ (fun _ _ _ _ e=>by cases e) (fun o es e=>by injection e with e1 e2;subst e1 e2;exact ⟨rfl,by rw [List.length_map]⟩) ⟨hw,rfl,rfl⟩ (by omega) (by omega) (by rw [byIs];omega) (fresh _ rfl))
 ·rw [dapp_atw]
  by_cases hroom:l.length+1≤c
  ·refine dappend_in (m:=1) (news:=flat [nD x]) elIs hz (by rfl) hk2 ⟨hw,rfl,rfl⟩ hroom (by omega) (by rw [szIs];omega) rfl ?_
   have hkn:=hW.lt hk2
   have e1:flat [nD x]=[nD x]:=rfl
   rw [e1,szIs,Nat.mul_one]
   have hsl:(splice cs (off+l.length) [nD x]).length=cs.length:=splice_len (by rw [List.length_singleton];omega)
   refine hK _ (some k) _ (hW.set hkn _) (.inr ⟨k,off,c,splice cs (off+l.length) [nD x],by rw [List.length_append];rfl,rfl,hk1,by simp only [St.set,if_true],by rw [List.length_append];exact hroom,by rw [hsl];exact hk4,?_⟩) (fun q o e hq=>?_) (Nat.le_refl _) (fun q e=>.inl e)
   ·rw [List.map_append,← hk5,List.length_append,List.length_singleton]
    unfold splice
    have h1:(cs.take (off+l.length)).length=off+l.length:=by rw [List.length_take];omega
    rw [List.append_assoc,List.drop_append_of_le_length (by omega),List.drop_take,show off+l.length - off=l.length by omega]
    have h2:((cs.drop off).take l.length).length=l.length:=by rw [List.length_take,List.length_drop];omega
    rw [List.take_append,List.take_of_length_le (by omega),h2,show l.length+1 - l.length=1 by omega]
    rfl
   ·simp only [St.set]
    rw [if_neg (fun e2=>hq (by rw [e2]))]
    exact e
  ·refine dappend_new (n:=l.length) (c:=c) (m:=1) (olds:=(cs.drop off).take (l.length * szOf Tryz.prog 3)) (news:=flat [nD x]) elIs hz zeIs zoIs (srcOk_win hk2 (by rw [szIs];omega)) (fun _ _ _ _ e=>by injection e with _ _ _ e;exact e.symm) (fun _ _ e=>by cases e) ⟨hw,rfl,rfl⟩ (by omega) (by omega) (by rw [byIs];omega) (fresh _ (by rw [szIs,Nat.mul_one];exact hk5))
theorem walk_at {S:St} {k:Nat} {F:Nat→Prop} {vs:List DVer} (hr:RegAt k F vs S) {start:Nat} (hs:start<vs.length) (hl:vs.length≤1000000) {g:FuncId} {cs:List D} {I:(Nat→Prop)→List (Nat × Nat)→St→Prop} (hI:ReachI g cs k F vs I) {G0:Nat→Prop} (h0:I G0 [] S) (hd:∀ q,F q→¬ G0 q) :
  DCalls Tryz.prog 36 [.loc k 0,nD start,.fn (.func g) [] cs] S (fun d T=>d=.tup []∧∃ G',I G' (outW vs start) T∧(∀ q,G' q→G0 q∨S.next≤q)∧FrN G0 S T):=by
 refine dcalls_inline mixed Tryz.func36 rfl (fun _ _=>by kernel_rfl) (rs:=[]) rfl (by kernel_rfl) (fun hS=>?_)
 obtain ⟨ow,b,q,c,es,zs,o,h1,h2,h3,h4,h5,h6⟩:=hr.open (by omega)
 (refine dd1 @h1 ?_)
 have hzb:(List.replicate vs.length (zeroD Tryz.prog 4)).flatten=seenL vs.length []:=by
  have e:zeroD Tryz.prog 4=[boolD false]:=by kernel_rfl
  rw [e]
  have:∀ n,(List.replicate n [boolD false]).flatten=(List.range n).map fun _=>boolD false:=fun n=>by
   induction n with
   | zero=>rfl
   | succ n ih=>rw [List.replicate_succ',List.flatten_append,ih,List.range_succ,List.map_append];rfl
  rw [this]
  simp [seenL]
 have hby:bytesOf Tryz.prog 4=1:=by kernel_rfl
 refine dmake_win (n:=vs.length) elBs (by kernel_rfl) (by kernel_rfl) (by omega) (by rw [hby];omega) ?_
 rw [hzb]
 have hll:=seenL_len vs.length []
 have hset:(seenL vs.length []).take start++[.v (.bool true)]++(seenL vs.length []).drop (start+1)=seenL vs.length [start]:=seenL_set (n:=vs.length) (r:=[]) hs
 (refine dd6 @h1 @hll @hset @nD.eq_1 @iD.eq_1 @Nat.mul_one ?_)
 refine dloop_up (fun t=>List.contains [7,8,10,22,23,24,25,26,27,28,29,30,31,32,33,34,35,36,37,38,39,40,41,42,43,44,45,46,47,48,49,50,51,52,53,54,55,56,57,58,59,60,61] t) (by kernel_rfl) wfA (bfR vs start) (fun i f' T=>i≤bfR vs start∧∃ dn kn G,f' 7=dn∧NextAt (S.next+1) ((bfs vs start i).1.drop i) dn T kn∧T.ob S.next=some (.box 4 (seenL vs.length (bfs vs start i).1))∧I G (bfs vs start i).2 T∧(∀ q,G q→G0 q∨S.next<q)∧(∀ x,kn=some x→¬ G x)∧FrN G0 S T∧(∀ q,F q→¬ G q)∧RegAt k F vs T) ?_ ?_
 ·have hsub0:S.Sub ((S.add (.box 4 (seenL vs.length []))).set S.next (.box 4 (seenL vs.length [start]))):=((St.Sub.refl S).add hS _).set hS (Nat.le_refl _) _
  exact ⟨Nat.zero_le _,_,none,G0,by exact di0,.inl ⟨rfl,rfl⟩,by exact di0,hI.mono _ _ _ _ h0 (fun q o _ e=>hsub0.ob q o e) hsub0.next,fun q h=>.inl h,(fun _ h=>by cases h),FrN.of_sub hsub0,hd,hr.sub hsub0⟩
 rintro i f' T hT hgw ⟨le,dn,kn,G,q7,hnx,hsn,hIT,hG,hkG,hfr,hFG,hrT⟩
 (have q0w:=hgw 0 rfl;have q2w:=hgw 2 rfl;have q6w:=hgw 6 rfl;simp (disch:=first | decide | omega | (simp only [nx];first | done | omega)) only [go_sem] at q0w q2w q6w;clear hgw)
 have hRl:=bfR_le hs
 have hsl:=bfs_len vs hs i
 have hlt0:=(bfs_ok vs hs i).2
 have hsk:=hT.lt hsn
 obtain ⟨cd,hcd,hlen⟩:∃ cd:Prop,cd∧dbuiltin Tryz.prog .len #[78] 3 (Array.map isConstB #[Operand.tmp 22]) [dn]=some (cd,.v (.int .i64 ((((bfs vs start i).1.drop i).length:Nat):Int))):=by
  rcases hnx with ⟨rfl,_⟩ | ⟨kk,off,c',cs',rfl,_⟩
  ·rw [← List.length_map (f:=nD)];exact ⟨_,by first | trivial | kernel_rfl,rfl⟩
  ·exact ⟨_,by first | trivial | kernel_rfl,rfl⟩
 by_cases hlt:i<bfR vs start
 ·have hq:=bfR_go hs hlt
  have hql:((bfs vs start i).1.drop i).length=(bfs vs start i).1.length - i:=List.length_drop
  have b1:decide ((((bfs vs start i).1.drop i).length:Nat) > (0:Int))=true:=decide_eq_true (by omega)
  (refine dd3 @q7 @hlen @b1 ?_)
  have ha:(bfs vs start i).1.drop i=(bfs vs start i).1[i]::(bfs vs start i).1.drop (i+1):=List.drop_eq_getElem_cons hq
  have haN:=hlt0 _ (List.getElem_mem hq)
  refine onV_cut2 (fun f' T'=>T'=T∧f' 0=.loc k 0∧f' 2=.fn (.func g) [] cs∧f' 6=.win S.next 0 vs.length vs.length∧f' 8=nD ((bfs vs start i).1[i])∧∃ dn,f' 7=dn∧NextAt (S.next+1) ((bfs vs start i).1.drop (i+1)) dn T kn) ?_ ?_
  ·rcases hnx with ⟨rfl,rfl⟩ | ⟨kk,off,c',cs',rfl,rfl,hk1,hk2,hk3,hk4,hk5⟩
   ·rw [ha]
    (refine dd7 @q7 @q0w @q2w @q6w @nD.eq_1 @iD.eq_1 @List.map_cons.{0,0} ?_)
    refine ⟨⟨by omega,by rw [hql];omega,.inr (wN _)⟩,_,rfl,.inl ⟨?_,rfl⟩⟩
    rw [ha];rfl
   ·have hcell:cs'.getD off undefD=nD ((bfs vs start i).1[i]):=by
     have h9:=congrArg (fun l:List D=>l[0]?) hk5
     rw [ha] at h9
     simp only [List.map_cons,List.getElem?_cons_zero,List.length_cons] at h9
     rw [List.getElem?_take_of_lt (by omega),List.getElem?_drop,Nat.add_zero] at h9
     rw [List.getD_eq_getElem?_getD,h9]
     rfl
    (refine dd6 @q7 @q0w @q2w @q6w @hk2 @hcell ?_)
    have hl1:((bfs vs start i).1.drop i).length - 1=((bfs vs start i).1.drop (i+1)).length:=by rw [List.length_drop,List.length_drop];omega
    have hl2:((bfs vs start i).1.drop (i+1)).length=(bfs vs start i).1.length - (i+1):=List.length_drop
    refine ⟨_,rfl,.inr ⟨kk,_,_,cs',by rw [hl1],rfl,hk1,hk2,by omega,?_,?_⟩⟩
    ·by_cases e:c'=1
     ·subst e
      have:winOff 1 1 off 1=off:=rfl
      rw [this];omega
     ·rw [winOff_lt (by omega)];omega
    ·by_cases e:c'=1
     ·have e2:(bfs vs start i).1.drop (i+1)=[]:=List.drop_of_length_le (by omega)
      rw [e2];rfl
     ·rw [winOff_lt (by omega),Nat.one_mul]
      have h9:=congrArg (List.drop 1) hk5
      rw [List.drop_take,List.drop_drop,hl1] at h9
      rw [h9,ha]
      rfl
  ·rintro f' T' ⟨rfl,f0,f2,f6,f8,dn,f7,hnx⟩
   obtain ⟨ow,b,q,c,es,zs,o,h1,h2,h3,h4,h5,h6⟩:=hrT.open (by omega)
   generalize hav:(bfs vs start i).1[i]=a at *
   have hget:=flatR_get (j:=24) h5 (h6 a haN) (by omega) zs
   rw [show (verD vs[a] (o a) (besL vs a)).cells=verCs vs[a] (o a) (besL vs a) from rfl,verCs_bes] at hget
   have hfit:=flatR_fit h5 (h6 a haN) zs
   (refine dd10 @f0 @f2 @f6 @f7 @f8 @h1 @h2 @hget @nD.eq_1 @iD.eq_1 ?_)
   refine DCalls.mono (DCalls.wf (values_d _ _)) ?_
   rintro d T1 ⟨⟨rfl,hs1⟩,hT1⟩
   (refine dd0 ?_)
   have hbm:(besL vs a).map nD=((besL vs a).map fun n:Nat=>(n:Int)).map iD:=by rw [List.map_map];rfl
   rw [hbm]
   have hbl:=besL_len vs a
   refine DCalls.mono (DCalls.wf (sortedI_d (o a) ((besL vs a).map fun n:Nat=>(n:Int)) (by rw [List.length_map];omega) (List.pairwise_map.2 ((besL_asc vs a).imp fun h=>by omega)))) ?_
   rintro d T2 ⟨⟨hdw,hdk,hs2,hd0⟩,hT2⟩
   rw [← hbm] at hdw
   generalize hlb:besL vs a=lb at *
   have hsA:T'.Sub T2:=hs1.trans hs2
   obtain ⟨ce,hce,hle⟩:∃ cd:Prop,cd∧dbuiltin Tryz.prog .len #[78] 3 (Array.map isConstB #[Operand.tmp 39]) [d]=some (cd,.v (.int .i64 ((lb.length:Nat):Int))):=by
    rcases hdw with ⟨e1,rfl⟩ | ⟨kk,c',zs',rfl,_⟩
    ·rw [show lb=[] from List.map_eq_nil_iff.1 e1]
     exact ⟨_,by first | trivial | kernel_rfl,rfl⟩
    ·rw [List.length_map]
     exact ⟨_,by first | trivial | kernel_rfl,rfl⟩
   (refine dd1 @hle ?_)
   have hkd0:∀ k n c,d=.win k 0 n c→T'.next≤k:=fun k n c e=>Nat.le_trans hs1.next (hdk k n c e)
   have hG2:I G (bfs vs start i).2 T2:=hI.mono _ _ _ _ hIT (fun q o _ e=>hsA.ob q o e) hsA.next
   have hGlt:=hI.lt _ _ _ hIT
   have hkn0:∀ x,kn=some x→x<T'.next:=fun x e=>by
    rcases hnx with ⟨_,e2⟩ | ⟨kk,_,_,cs',_,e2,_,e3,_⟩
    ·rw [e2] at e;cases e
    ·rw [e2] at e;injection e with e;subst e;exact hT.lt e3
   generalize hs0:bfs vs start i=s0 at *
   have hs1':(lb.foldl (bfOne a) s0)=bfs vs start (i+1):=by
    have:=bfs_at (vs:=vs) (start:=start) (p:=i) (by rw [hs0];exact hq)
    rw [this]
    simp only [hs0,hav,hlb]
   have hlbN:∀ x∈lb,x<vs.length:=fun x hx=>by rw [← hlb] at hx;exact besL_lt hx
   have hfold:∀ j,(((lb.take j).foldl (bfOne a) s0).1.Nodup∧∀ x∈((lb.take j).foldl (bfOne a) s0).1,x<vs.length):=fun j=>by
    have h9:=bfs_ok vs hs i
    rw [hs0] at h9
    exact bfFold_ok h9.1 h9.2 fun x hx=>hlbN x (List.mem_of_mem_take hx)
   refine dloop_up (fun t=>List.contains [7,10,41,42,43,44,45,46,47,48,49,50,51,52,53,54,55,56,57,58,59,60,61] t) (by kernel_rfl) hT2 lb.length (fun j q U=>j≤lb.length∧q 41=.v (.int .i64 ((j:Nat):Int))∧∃ dn kn G,q 7=dn∧NextAt (S.next+1) (((lb.take j).foldl (bfOne a) s0).1.drop (i+1)) dn U kn∧U.ob S.next=some (.box 4 (seenL vs.length ((lb.take j).foldl (bfOne a) s0).1))∧I G ((lb.take j).foldl (bfOne a) s0).2 U∧(∀ q,G q→G0 q∨S.next<q)∧(∀ x,kn=some x→¬ G x)∧FrN G0 S U∧(∀ q,F q→¬ G q)∧RegAt k F vs U∧OwnD Tryz.prog U 3 (lb.map nD) d∧∀ k n c,d=.win k 0 n c→¬ G k∧kn ≠ some k∧S.next<k)
    ⟨Nat.zero_le _,by exact di0,dn,kn,G,by exact di1 @f7,hnx.mono (fun k o _ e=>hsA.ob _ _ e),hsA.ob _ _ hsn,hG2,hG,hkG,hfr.trans (FrN.of_sub hsA),hFG,hrT.sub hsA,hdw,fun k n c e=>⟨fun h=>by have:=hGlt _ h;have:=hkd0 k n c e;omega,fun h=>by have:=hkn0 _ h;have:=hkd0 k n c e;omega,by have:=hkd0 k n c e;omega⟩⟩ ?_
   rintro j q U hU hgv ⟨lej,q41,dn2,kn2,G2,q7v,hnx2,hsn2,hI2,hG2',hkG2,hfr2,hFG2,hr2,hdw2,hdk2⟩
   (have q2v:=hgv 2 rfl;have q6v:=hgv 6 rfl;have q8v:=hgv 8 rfl;have q39v:=hgv 39 rfl;have q40v:=hgv 40 rfl;simp (disch:=first | decide | omega | (simp only [nx];first | done | omega)) only [go_sem] at q2v q6v q8v q39v q40v;clear hgv)
   rw [f2] at q2v
   rw [f6] at q6v
   rw [f8] at q8v
   by_cases hj:j<lb.length
   ·have b1:decide ((j:Int)<(lb.length:Int))=true:=decide_eq_true (by omega)
    have w1:IntKind.i64.wrap ((j:Int)+1)=((j+1:Nat):Int):=IntWalk.i64_in _ ⟨by omega,by omega⟩
    rcases hdw2 with ⟨e1,_⟩ | ⟨kd,cd,zd,rfl,hkd,hzd,hknd⟩
    ·rw [List.map_eq_nil_iff.1 e1] at hj;simp at hj
    have hfl:flat (lb.map nD)=lb.map nD:=by
     have:=flat_iD (lb.map fun n:Nat=>(n:Int))
     rwa [List.map_map] at this
    have hcd:0<cd:=by
     rw [szIs,List.length_append,hfl,List.length_map] at hzd;omega
    have hkd':=hkd
    rw [ownOb_box hcd,hfl] at hkd'
    have hcj:(lb.map nD++zd).getD j undefD=nD lb[j]:=by
     rw [List.getD_eq_getElem?_getD,List.getElem?_append_left (by rw [List.length_map];exact hj)]
     simp [hj]
    have hto:=hlbN _ (List.getElem_mem hj)
    have hfj:(lb.take (j+1)).foldl (bfOne a) s0=bfOne a ((lb.take j).foldl (bfOne a) s0) lb[j]:=by
     rw [List.take_succ_eq_append_getElem hj,List.foldl_append];rfl
    have hsj:=hfold j
    have hsl2:=bfFold_len2 (a:=a) (l:=lb.take j) (s:=s0) (by rw [← hs0];exact bfs_len2 vs start i)
    generalize hsj0:(lb.take j).foldl (bfOne a) s0=sj at *
    have hgs:=seenL_get (n:=vs.length) (r:=sj.1) hto
    have hll2:=seenL_len vs.length sj.1
    have hln:(lb.map nD).length=lb.length:=List.length_map _
    (simp (disch:=first | decide | omega | (simp only [nx];first | done | omega)) only [go_sem,q41,q7v,q2v,q6v,q8v,q39v,q40v,b1,hkd',hcj,hsn2,hgs,hln,nD,iD,boolD,Nat.mul_one,Nat.zero_add];(repeat with_reducible refine aI ?_))
    refine ⟨by rw [List.length_append,List.length_map];omega,by omega,by omega,?_⟩
    have hkGd:=hdk2 _ _ _ rfl
    by_cases hin:lb[j]∈sj.1
    ·have b2:(!decide (lb[j]∈sj.1))=false:=by rw [decide_eq_true hin];rfl
     have e2:bfOne a sj lb[j]=sj:=by unfold bfOne;rw [if_pos hin]
     (refine dd9 @q41 @q7v @q2v @q6v @q8v @q39v @q40v @b2 @w1 ?_)
     refine ⟨by omega,U.ob,fun _ _ h=>h,by omega,by exact di1 @w1,dn2,kn2,G2,by exact di1 @q7v,?_,?_,?_,hG2',hkG2,hfr2,hFG2,hr2,.inr ⟨kd,cd,zd,by first | rfl | rw [List.length_map],hkd,hzd,hknd⟩,fun k n c e=>by injection e with e;subst e;exact hkGd⟩
     ·rw [hfj,e2];exact hnx2
     ·rw [hfj,e2];exact hsn2
     ·rw [hfj,e2];exact hI2
    ·have b2:(!decide (lb[j]∈sj.1))=true:=by rw [decide_eq_false hin];rfl
     have e2:bfOne a sj lb[j]=(sj.1++[lb[j]],sj.2++[(a,lb[j])]):=by unfold bfOne;rw [if_neg hin]
     have hset2:(seenL vs.length sj.1).take lb[j]++[.v (.bool true)]++(seenL vs.length sj.1).drop (lb[j]+1)=seenL vs.length (sj.1++[lb[j]]):=seenL_set hto
     have hsU:=hU.lt hsn2
     (refine dd13 @q41 @q7v @q2v @q6v @q8v @q39v @q40v @b2 @hsn2 @hset2 @hll2 @Nat.mul_one @Nat.zero_add ?_)
     have hG0lt:=hI.lt _ _ _ h0
     have hG2ne:∀ q,G2 q→q ≠ S.next:=fun q h=>by
      rcases hG2' q h with h | h
      ·have:=hG0lt q h;omega
      ·omega
     have keep1:∀ q o,U.ob q=some o→q ≠ S.next→∀ X,(U.set S.next X).ob q=some o:=fun q o e hh X=>by simp only [St.set];rw [if_neg hh];exact e
     have hkn2:∀ x,kn2=some x→S.next+1≤x:=fun x e=>by
      rcases hnx2 with ⟨_,e2⟩ | ⟨kk,_,_,cs',_,e2,e3,_⟩
      ·rw [e2] at e;cases e
      ·rw [e2] at e;injection e with e;omega
     have hlen2:(sj.1.drop (i+1)).length≤1000000:=by
      have:=nodup_len hsj.1 hsj.2
      rw [List.length_drop];omega
     have hleni:i+1≤sj.1.length:=by
      have:=bfFold_len (a:=a) (l:=lb.take j) (s:=s0)
      rw [hsj0] at this
      omega
     have hU1:(U.set S.next (.box 4 (seenL vs.length (sj.1++[lb[j]])))).WF:=hU.set hsU _
     refine dapp_next (x:=lb[j]) hU1 (hnx2.mono fun kk o e1 e3=>keep1 _ _ e3 (by have:=hkn2 _ e1;omega) _) hlen2 (by show S.next+1≤U.next;omega) ?_
     rintro dn3 kn3 U3 hU3 hnx3 hob3 hnn3 hkn3
     have hnn3':U.next≤U3.next:=hnn3
     have keep3:∀ q o,U.ob q=some o→q ≠ S.next→kn2 ≠ some q→U3.ob q=some o:=fun q o e h1 h2=>hob3 q o (keep1 q o e h1 _) h2
     have hr3:RegAt k F vs U3:=hr2.mono (fun q o hq e=>keep3 q o e (by have:=hr.lt q hq;omega) fun e2=>by have:=hkn2 _ e2;have:=hr.lt q hq;omega) hnn3'
     have hI3:=hI.mono _ _ _ U3 hI2 (fun q o hq e=>keep3 q o e (hG2ne q hq) fun e2=>hkG2 _ e2 hq) hnn3'
     have hsn3:U3.ob S.next=some (.box 4 (seenL vs.length (sj.1++[lb[j]]))):=hob3 _ _ (by simp [St.set]) fun e2=>by have:=hkn2 _ e2;omega
     have hkd3:=keep3 _ _ hkd (by have:=hkGd.2.2;omega) hkGd.2.1
     have hfr3:FrN G0 S U3:=⟨fun q o hq e=>keep3 q o (hfr2.ob q o hq e) (by have:=hS.lt e;omega) fun e2=>by have:=hkn2 _ e2;have:=hS.lt e;omega,Nat.le_trans hfr2.next hnn3'⟩
     have hkn3G:∀ x,kn3=some x→¬ G2 x:=fun x e hx=>by
      rcases hkn3 x e with h | h
      ·exact hkG2 x h hx
      ·have:=hI.lt _ _ _ hI2 x hx
       have h':U.next≤x:=h
       omega
     (refine dd7 @q41 @q7v @q2v @q6v @q8v @q39v @q40v ?_)
     refine DCalls.mono (DCalls.wf (hI.call G2 _ U3 a lb[j] (by have:=nodup_len hsj.1 hsj.2;omega) hU3 haN hto hr3 hI3 hFG2)) ?_
     rintro d4 U4 ⟨⟨rfl,G4,hI4,hG4,hfr4⟩,hU4⟩
     have hx:∀ q,q<U3.next→¬ G2 q→¬ G4 q:=fun q h1 h2 h3=>by
      rcases hG4 q h3 with h | h
      ·exact h2 h
      ·omega
     have hU3s:S.next<U3.next:=by omega
     (refine dd8 @q41 @q7v @q2v @q6v @q8v @q39v @q40v @w1 ?_)
     refine ⟨by omega,U4.ob,fun _ _ h=>h,by omega,by exact di1 @w1,dn3,kn3,G4,by exact di0,?_,?_,?_,fun q h=>?_,fun x e=>?_,?_,fun q hq=>?_,?_,.inr ⟨kd,cd,zd,by first | rfl | rw [List.length_map],hfr4.ob _ _ hkGd.1 hkd3,hzd,?_⟩,fun k n c e=>?_⟩
     ·rw [hfj,e2,List.drop_append_of_le_length hleni]
      refine hnx3.mono fun kk o e1 e3=>hfr4.ob _ _ (hkn3G _ e1) e3
     ·rw [hfj,e2]
      exact hfr4.ob _ _ (fun h=>hG2ne _ h rfl) hsn3
     ·rw [hfj,e2];exact hI4
     ·rcases hG4 q h with h | h
      ·exact hG2' q h
      ·right;omega
     ·refine hx x ?_ (hkn3G x e)
      rcases hnx3 with ⟨_,e9⟩ | ⟨kk,_,_,cs',_,e9,_,e8,_⟩
      ·rw [e9] at e;cases e
      ·rw [e9] at e;injection e with e;subst e;exact hU3.lt e8
     ·exact ⟨fun q o hq e=>by
       refine hfr4.ob q o (fun h=>?_) (hfr3.ob q o hq e)
       rcases hG2' q h with h | h
       ·exact hq h
       ·have:=hS.lt e;omega,Nat.le_trans hfr3.next hfr4.next⟩
     ·exact hx q (hr3.lt q hq) (hFG2 q hq)
     ·exact hr3.fr hfr4 hFG2
     ·have:=hU3.lt hkd3
      have:=hfr4.next
      show kd<U4.next
      omega
     ·injection e with e
      subst e
      refine ⟨hx _ (hU3.lt hkd3) hkGd.1,fun h=>?_,hkGd.2.2⟩
      rcases hkn3 _ h with h | h
      ·exact hkGd.2.1 h
      ·have h':U.next≤kd:=h
       omega
   ·have b1:decide ((j:Int)<(lb.length:Int))=false:=decide_eq_false (by omega)
    obtain rfl:j=lb.length:=by omega
    rw [List.take_length,hs1'] at hnx2 hsn2 hI2
    (refine dd8 @q41 @q7v @q2v @q6v @q8v @q39v @q40v @b1 ?_)
    exact ⟨hlt,U.ob,fun _ _ h=>h,by omega,dn2,kn2,G2,by exact di1 @q7v,hnx2,hsn2,hI2,hG2',hkG2,hfr2,hFG2,hr2⟩
 ·obtain rfl:i=bfR vs start:=by omega
  have hq:=bfR_end hs
  have e0:(bfs vs start (bfR vs start)).1.drop (bfR vs start)=[]:=List.drop_of_length_le hq
  rw [e0] at hlen
  have b1:decide ((0:Int)<0)=false:=by decide
  (refine dd3 @q7 @hlen @b1 ?_)
  exact ⟨G,by rw [← bfs_fin hs];exact hIT,fun q h=>(hG q h).imp id Nat.le_of_lt,hfr⟩
end
theorem DCalls.le {P:Program} {g:FuncId} {args args':List D} {S:St} {K:D→St→Prop} (h:∀ w η X vs,RepL P w η X args vs→RepL P w η X args' vs) (k:DCalls P g args' S K):DCalls P g args S K:=fun base η w vs hM hr=>k base η w vs hM (h _ _ _ _ hr)
theorem repL_frzI {P:Program} {w:World} {η:Names} {X:Nat→Nat→Prop}:∀ {l:List D} {x:D} {vs:List Value},RepL P w η X (l++[x]) vs→RepL P w η X (frzL l++[x]) vs
 | [],x,vs,h=>h
 | d::l,x,vs,h=>by
  simp only [List.cons_append,RepL] at h
  obtain ⟨u,us,rfl,h1,h2⟩:=h
  simp only [frzL,List.cons_append,RepL]
  exact ⟨u,us,rfl,h1.frz,repL_frzI h2⟩
theorem rep_frzI {P:Program} {w:World} {η:Names} {X:Nat→Nat→Prop} {l:List D} {x:D} {v:Value} (h:Rep P w η X (.agg (l++[x])) v):Rep P w η X (.agg (frzL l++[x])) v:=by
 simp only [Rep] at h ⊢
 obtain ⟨vs,h1,h2,h3⟩:=h
 exact ⟨vs,h1,repL_frzI h2,h3⟩
def rootV (root:H32) (s:DSch):DVer:=⟨root,-1,zeroL,s⟩
theorem wfR_root (root:H32) (s:DSch):WfR [rootV root s]:=⟨fun i hi=>by
 obtain rfl:i=0:=by simpa using hi
 exact ⟨fun _=>rfl,fun h=>by omega⟩,by simp⟩
theorem wfR_nil:WfR []:=⟨fun i hi=>by simp at hi,by simp⟩
def erD' (n:Int):D:=.ifc 104 (.v (.int .i64 n))
def zlF:List D:=[.v (.int .i64 0),.v (.string ⟨#[]⟩),.v (.string ⟨#[]⟩),.v (.int .i64 0),.sl .full [],.sl .full [],.v (.int .i64 0),.v (.int .i64 0),.v (.string ⟨#[]⟩),.sl .full [],.sl .full [],.sl .full [],.v (.int .i64 0),.v (.int .i64 0),.v (.string ⟨#[]⟩),.sl .full [],.sl .full [],.sl .full [],.sl .full [],.sl .full []]
theorem frz_zlF:frzL zlF=(encL zeroL).cells:=by kernel_rfl
theorem rep_root {P:Program} {w:World} {η:Names} {X:Nat→Nat→Prop} {n:Int} {s:DSch} {v:Value} (h:Rep P w η X (.agg ((.v (.int .i64 n)::(zlF++(encS s).cells))++[.sl .full []])) v):Rep P w η X (.agg (.v (.int .i64 n)::((encL zeroL).cells++((encS s).cells++[.sl .full []])))) v:=by
 have h2:=rep_frzI h
 have e:frzL (.v (.int .i64 n)::(zlF++(encS s).cells))++[.sl .full []]=.v (.int .i64 n)::((encL zeroL).cells++((encS s).cells++[.sl .full []])):=by
  rw [frzL,frzL_app,frz_zlF,cells_sCs,frz_sCs,D.frz,List.cons_append,List.append_assoc]
 rwa [e] at h2
section
set_option maxRecDepth 200000
set_option maxHeartbeats 8000000
theorem new_a {S:St} (root:H32) (s:DSch) (hok:okS s) (hw:s.weight≤1000000):DCalls Tryz.prog 29 [encH root,encS s] S (fun d T=>(if s.kind=5∧rightS 5 s=true then ∃ k F,d=.tup [.loc k 0,.v .nilIface]∧RegAt k F [rootV root s] T∧(∀ q,F q→S.next≤q) else d=.tup [.v (.pointer none),erD' 1])∧S.Sub T):=by
 refine dcalls_inline mixed Tryz.func29 rfl (fun _ _=>by kernel_rfl) (rs:=[.tmp 4,.tmp 5]) rfl (by kernel_rfl) (fun hS=>?_)
 have lr:=root.2
 by_cases h5:s.kind=5
 ·have b5:(s.kind != 5)=false:=by simp [h5]
  (refine dd2 (encS_eq s) @b5 ?_)
  rw [aggS_fold]
  refine DCalls.of_pure (schRight_d s hok) ?_
  cases hb:rightS 5 s with
  | false =>
   (refine dd0 ?_)
   rw [if_neg (by simp)]
   exact ⟨rfl,((St.Sub.refl S).add hS _).add hS _⟩
  | true =>
   (refine dd0 ?_)
   refine dmake_map fun b=>?_
   (refine dd0 ?_)
   generalize hX:St.add (St.add (St.add (St.add S _) _) _) _=X
   have hsX:S.Sub X:=by rw [← hX];exact ((((St.Sub.refl S).add hS _).add hS _).add hS _).add hS _
   have hWX:X.WF:=by rw [← hX];exact (((hS.add _).add _).add _).add _
   have hnX:X.next=S.next+4:=by rw [← hX];rfl
   have x0:X.ob S.next=some (.box 39 (root.1.map bD)):=by rw [← hX];exact di0
   have x1:X.ob (S.next+1)=some (.box 25 (sCs s)):=by rw [← hX];exact di1 @sCs.eq_1
   have x2:X.ob (S.next+1+1)=some (.mp b (mapL [])):=by rw [← hX];exact di0
   have x3:X.ob (S.next+1+1+1)=some (.box 95 [.sl .full [],.sl .full [],.v (.map (some b))]):=by rw [← hX];exact di0
   clear hX
   have hreg:RegAt (S.next+1+1+1) (fun q=>q=S.next+1+1∨q=S.next+1+1+1) [] X:=by
    refine ⟨⟨.full,.sl .full [],[],fun _=>.full,b,S.next+1+1,x3,.inl ⟨rfl,rfl⟩,⟨.inl ⟨rfl,rfl⟩,fun _ _ _ e=>by cases e⟩,⟨x2,.inl rfl⟩,⟨rfl,fun i hi=>by simp at hi⟩,fun i hi=>by simp at hi,fun i i' g hi=>by simp at hi⟩,.inr rfl,fun q hq=>?_⟩
    rcases hq with rfl | rfl <;> omega
   refine ddraw_any (fun S'=>S'.ob S.next=some (.box 39 (root.1.map bD))∧S'.ob (S.next+1)=some (.box 25 (sCs s))) 6 (by exact di4 @x0 @x1 @true_and @and_true) (by kernel_rfl) ?_
   (have F:=pk4 @lr @sCs.eq_1 @agg_sCs @aggS_fold;refine stq F 0 ?_;refine stq F 1 ?_;refine stq F 2 ?_;clear F)
   (refine stk 3 (v:=?v4) (fun S' hz=>dquietR_of ?h4) ?k4;(case h4=>((refine dd1 @hz ?_);refine dqgo_mk (schCopy_d s hok hw) ?_;exact rfl)))
   (have F:=trivial;refine stq F 4 ?_;clear F)
   (refine s_one 5 ?_;(refine dd0 ?_))
   refine DCalls.le (args':=[.loc (S.next+1+1+1) 0,encH root,verD (rootV root s) .full []]) (fun w η Y vs h=>?_) (DCalls.mono (DCalls.wf (reg_a hreg (rootV root s) wfR_nil (.inl ⟨rfl,rfl⟩) rfl (by simp))) ?_)
   ·simp only [RepL] at h ⊢
    obtain ⟨u1,_,rfl,r1,u2,_,rfl,r2,u3,_,rfl,r3,rfl⟩:=h
    exact ⟨u1,_,rfl,r1,u2,_,rfl,r2,u3,_,rfl,rep_root r3,rfl⟩
   rintro d T ⟨⟨rfl,F',hr,hF,hfr⟩,hT⟩
   have t0:=hfr.ob _ _ (by omega) x0
   have t1:=hfr.ob _ _ (by omega) x1
   refine ⟨⟨t0,t1⟩,?_⟩
   (refine s_done (by kernel_rfl) ?_;(refine dd2 @t0 @t1 ?_))
   rw [if_pos h5]
   have hsub:S.Sub T:=⟨by have:=hfr.next;omega,fun q o e=>hfr.ob _ _ (by have:=hS.lt e;omega) (hsX.ob _ _ e)⟩
   exact ⟨⟨_,F',rfl,hr,fun q hq=>by
    rcases hF q hq with (rfl | rfl) | h <;> omega⟩,hsub⟩
 ·have b5:(s.kind != 5)=true:=by simp [h5]
  (refine dd2 (encS_eq s) @b5 ?_)
  rw [if_neg (fun h=>h5 h.1)]
  exact ⟨rfl,((St.Sub.refl S).add hS _).add hS _⟩
/-! Of none nothing comes. -/
theorem okL_zero:okL zeroL:=by
 simp [okL,zeroL,okS,okSs,okV,okVs,okLs,I64]
 decide
noncomputable def plH:Nat→Option (Nat × Nat):=(placeT Tryz.prog 39).getD fun _=>none
theorem placeT_H:placeT Tryz.prog 39=some plH:=by kernel_rfl
end
def befN (n:Nat) (e:List (Nat × Nat)):List Nat:=e.foldl (fun l p=>l.set p.2 p.1) (List.replicate n 0)
theorem befN_snoc (n:Nat) (e:List (Nat × Nat)) (p:Nat × Nat):befN n (e++[p])=(befN n e).set p.2 p.1:=by simp [befN]
theorem befN_len (n:Nat) (e:List (Nat × Nat)):(befN n e).length=n:=by
 have:∀ (e:List (Nat × Nat)) (l:List Nat),(e.foldl (fun l p=>l.set p.2 p.1) l).length=l.length:=fun e=>by
  induction e with
  | nil=>intro l;rfl
  | cons p e ih=>intro l;rw [List.foldl_cons,ih,List.length_set]
 rw [befN,this,List.length_replicate]
theorem map_set1 (l:List Nat) {b a:Nat} (h:b<l.length):(l.map nD).take b++[nD a]++(l.map nD).drop (b+1)=(l.set b a).map nD:=by
 rw [List.set_eq_take_append_cons_drop,if_pos h,List.map_append,List.map_cons,List.map_take,List.map_drop]
 simp
def PathI (kb kc n:Nat) (G:Nat→Prop) (e:List (Nat × Nat)) (S:St):Prop :=
 S.ob kc=some (.box 78 [.win kb 0 n n])∧S.ob kb=some (.box 3 ((befN n e).map nD))∧G kb∧G kc∧∀ q,G q→q<S.next
theorem dapp_rowF {P:Program} {S:St} {t e ty:TypeId} {own own2:Own} {es:List D} {o:D} {K:D→St→Prop} (he:elT P t=some e) (hz:zeroT P e=true) (hy:bytesOf P e≤1000) (h:own=.full∨∃ g,own=.row g∧S.ob g=some (.row e es.length)) (hl:es.length≤1000000) (hw:∀ d∈es,d.width=szOf P e) (ho:o.width=szOf P e)
  (k:K (.sl (.row S.next) (es++[o])) (S.grow own e (es.length+1))):dapp P S t t ty (.sl own es) (.sl own2 [o]) K:=by
 refine dapp_row ?_
 simp only [dappend,he,hz,true_and,Option.isSome_some,List.length_cons,List.length_nil]
 refine ⟨hw,fun d hd=>by obtain rfl:=List.mem_singleton.1 hd;exact ho,?_,by omega,?_,k⟩
 ·rcases h with rfl | ⟨g,rfl,h⟩
  ·trivial
  ·exact h
 ·exact Nat.le_trans (Nat.mul_le_mul_left _ hy) (by omega)
def nmAt (vs:List DVer) (i:Nat):H32:=((vs[i]?).map (·.name)).getD ⟨List.replicate 32 0,rfl⟩
def pthN (vs:List DVer) (f:Nat→Nat) (m:Nat):List H32:=(List.range (m+1)).map fun i=>nmAt vs (f i)
theorem pthN_succ (vs:List DVer) (f:Nat→Nat) (m:Nat):pthN vs f (m+1)=pthN vs f m++[nmAt vs (f (m+1))]:=by
 unfold pthN
 rw [List.range_succ (n:=m+1),List.map_append]
 rfl
theorem pthN_len (vs:List DVer) (f:Nat→Nat) (m:Nat):(pthN vs f m).length=m+1:=by simp [pthN]
theorem pthN_zero (vs:List DVer) (f:Nat→Nat):pthN vs f 0=[nmAt vs (f 0)]:=rfl
theorem nmAt_lt {vs:List DVer} {i:Nat} (h:i<vs.length):nmAt vs i=vs[i].name:=by simp [nmAt,h]
section
set_option maxRecDepth 200000
set_option maxHeartbeats 8000000
theorem reachP {kb kc k:Nat} {F:Nat→Prop} {vs:List DVer} (hne:kb ≠ kc):ReachI 37 [.loc kc 0] k F vs (PathI kb kc vs.length):=by
 refine ⟨fun G e S a b hel hS ha hb hr hI hFG=>?_,fun G e S T h hs hn=>⟨hs _ _ h.2.2.2.1 h.1,hs _ _ h.2.2.1 h.2.1,h.2.2.1,h.2.2.2.1,fun q hq=>Nat.lt_of_lt_of_le (h.2.2.2.2 q hq) hn⟩,fun G e S h=>h.2.2.2.2⟩
 obtain ⟨h1,h2,h3,h4,h5⟩:=hI
 have hkb:=hS.lt h2
 refine dcalls_inline mixed Tryz.func37 rfl (fun _ _=>by kernel_rfl) (rs:=[]) rfl (by kernel_rfl) (fun hS=>?_)
 have hl:=befN_len vs.length e
 have hll:((befN vs.length e).map nD).length=vs.length:=by rw [List.length_map,hl]
 have hset:=map_set1 (befN vs.length e) (a:=a) (b:=b) (by rw [hl];exact hb)
 (refine dd4 @h1 @h2 @nD.eq_1 @iD.eq_1 ?_)
 rw [Nat.mul_one,show (List.map nD (befN vs.length e)).take b++[D.v (Value.int .i64 (a:Int))]++(List.map nD (befN vs.length e)).drop (b+1)=((befN vs.length e).set b a).map nD from hset,← befN_snoc vs.length e (a,b)]
 refine ⟨G,⟨?_,by simp [St.set],h3,h4,h5⟩,fun q h=>.inl h,fun q o hq e=>?_,Nat.le_refl _⟩
 ·simp only [St.set];rw [if_neg (fun e=>hne e.symm)];exact h1
 ·simp only [St.set];rw [if_neg (fun e2=>hq (by rw [e2];exact h3))];exact e
theorem path_at {S:St} {k:Nat} {F:Nat→Prop} {vs:List DVer} (hr:RegAt k F vs S) (hl:vs.length≤1000000) {h1 h2:H32} {a b:Nat} (ha:findR vs h1=some a) (hb:findR vs h2=some b) (m:Nat) (f:Nat→Nat) (hm:m≤1000000) (f0:f 0=a) (fm:f m=b) (hf:∀ i,i<m→f i ≠ b∧f i<vs.length∧(befN vs.length (outW vs b)).getD (f i) 0=f (i+1)) :
  DCalls Tryz.prog 12 [.loc k 0,encH h1,encH h2] S (fun d T=>∃ own,d=.tup [.sl own ((pthN vs f m).map encH),.v (.bool true)]∧S.Sub T):=by
 obtain ⟨hal,han⟩:=findR_some ha
 obtain ⟨hbl,hbn⟩:=findR_some hb
 refine dcalls_inline mixed Tryz.func12 rfl (fun _ _=>by kernel_rfl) (rs:=[.tmp 6,.tmp 7]) rfl (by kernel_rfl) (fun hS=>?_)
 have l1:=h1.2
 have l2:=h2.2
 (refine dd2 @l1 @l2 ?_)
 generalize hX:St.add (St.add S _) _=S1
 have hs1:S.Sub S1:=by rw [← hX];exact ((St.Sub.refl S).add hS _).add hS _
 have hW1:S1.WF:=by rw [← hX];exact (hS.add _).add _
 have hn1:S1.next=S.next+2:=by rw [← hX];rfl
 have b1:S1.ob S.next=some (.box 39 (h1.1.map bD)):=by rw [← hX];exact di0
 have b2:S1.ob (S.next+1)=some (.box 39 (h2.1.map bD)):=by rw [← hX];exact di0
 clear hX
 have hr1:=hr.sub hs1
 refine go_at (find_at hr1 h1) ?_
 rw [ha]
 (refine dd4 @b1 @b2 @l1 @l2 ?_)
 refine go_at (find_at hr1 h2) ?_
 rw [hb]
 obtain ⟨ow,bb,q,c,es,zs,o,g1,g2,g3,g4,g5,g6⟩:=hr1.open (by omega)
 (refine dd5 @b1 @b2 @l1 @l2 @g1 ?_)
 have hzb:(List.replicate vs.length (zeroD Tryz.prog 3)).flatten=(befN vs.length []).map nD:=by
  have e:zeroD Tryz.prog 3=[nD 0]:=by kernel_rfl
  rw [e]
  show _=(List.replicate vs.length 0).map nD
  rw [List.map_replicate]
  generalize vs.length=n
  induction n with
  | zero=>rfl
  | succ n ih=>rw [List.replicate_succ,List.flatten_cons,ih,List.replicate_succ];rfl
 refine dmake_win (n:=vs.length) elIs (by kernel_rfl) (by kernel_rfl) (by omega) (by rw [byIs];omega) ?_
 rw [hzb]
 (refine dd4 @b1 @b2 @l1 @l2 ?_)
 generalize hX:St.set (St.add (St.add S1 _) _) _ _=S2
 have hs2:S1.Sub S2:=by rw [← hX];exact (((St.Sub.refl S1).add hW1 _).add hW1 _).set hW1 (Nat.le_succ _) _
 have hW2:S2.WF:=by rw [← hX];exact wfA
 have hn2:S2.next=S1.next+2:=by rw [← hX];rfl
 have c1:S2.ob (S1.next+1)=some (.box 78 [.win S1.next 0 vs.length vs.length]):=by rw [← hX];exact di0
 have c2:S2.ob S1.next=some (.box 3 ((befN vs.length []).map nD)):=by rw [← hX];exact di0
 clear hX
 have hr2:=hr1.sub hs2
 have hsS:=hs1.trans hs2
 refine DCalls.mono (DCalls.wf (walk_at hr2 hbl hl (reachP (k:=k) (F:=F) (kb:=S1.next) (kc:=S1.next+1) (by omega)) (G0:=fun q=>q=S1.next∨q=S1.next+1) ⟨c1,c2,.inl rfl,.inr rfl,fun q hq=>by rcases hq with rfl | rfl <;> omega⟩ (fun q hq h=>by have:=hr.lt q hq;have:=hs1.next;rcases h with rfl | rfl <;> omega))) ?_
 rintro d T ⟨⟨rfl,G',⟨e1,e2,e3,e4,e5⟩,hG',hfr⟩,hT⟩
 have hsT:S.Sub T:=⟨by have:=hfr.next;have:=hsS.next;omega,fun q o e=>hfr.ob _ _ (by have:=hS.lt e;omega) (hsS.ob _ _ e)⟩
 have b1T:=hfr.ob _ _ (by omega) (hs2.ob _ _ b1)
 have hrT:=hr.sub hsT
 have hnT:=hfr.next
 (refine dd2 @b1T @l1 ?_)
 have hnm0:encH (nmAt vs (f 0))=encH h1:=by rw [f0,nmAt_lt hal,han]
 refine dloop_up (fun t=>List.contains [8,13,44,45,46,47,48,49,50,51,52,53,54,55,56,57,58,59,60] t) (by kernel_rfl) hT m (fun i q U=>i≤m∧q 8=nD (f i)∧T.Sub U∧∃ own,q 13=.sl own ((pthN vs f i).map encH)∧(own=.full∨∃ g,own=.row g∧T.next≤g∧U.ob g=some (.row 39 (i+1))))
  ⟨Nat.zero_le _,by exact di3 @f0 @nD.eq_1 @iD.eq_1,St.Sub.refl _,.full,by rw [pthN_zero,List.map_cons,List.map_nil,hnm0];exact di0,.inl rfl⟩ ?_
 rintro i q U hU hg ⟨le,q8,hsU,own,q13,hrow⟩
 (have q0:=hg 0 rfl;have q6:=hg 6 rfl;have q7:=hg 7 rfl;have q10:=hg 10 rfl;have q12:=hg 12 rfl;simp (disch:=first | decide | omega | (simp only [nx];first | done | omega)) only [go_sem,nD,iD] at q0 q6 q7 q10 q12;clear hg)
 rw [Option.getD_some] at q10
 have hrU:=hrT.sub hsU
 obtain ⟨owU,bbU,qU,cU,esU,zsU,oU,u1,u2,u3,u4,u5,u6⟩:=hrU.open (by omega)
 have c1U:=hsU.ob _ _ e1
 have c2U:=hsU.ob _ _ e2
 have hll:((befN vs.length (outW vs b)).map nD).length=vs.length:=by rw [List.length_map,befN_len]
 by_cases hlt:i<m
 ·obtain ⟨k1,k2,k3⟩:=hf i hlt
  have bb1:((f i:Int) != (b:Int))=true:=by
   rw [bne_iff_ne];omega
  have hget:((befN vs.length (outW vs b)).map nD).getD (f i) undefD=nD (f (i+1)):=by
   have h9:f i<(befN vs.length (outW vs b)).length:=by rw [befN_len];exact k2
   rw [← k3]
   simp [List.getD,h9]
  have hfi1:f (i+1)<vs.length:=by
   by_cases e:i+1=m
   ·rw [e,fm];exact hbl
   ·exact (hf (i+1) (by omega)).2.1
  have hgn:((vs.map (·.name)).map encH).getD (f (i+1)) undefD=encH (nmAt vs (f (i+1))):=by
   rw [nmAt_lt hfi1]
   simp [List.getD,hfi1]
  have hnl:((vs.map (·.name)).map encH).length=vs.length:=by simp
  (simp (disch:=first | decide | omega | (simp only [nx];first | done | omega)) only [go_sem,q0,q8,q10,q12,q13,nD,iD,bb1,c1U,c2U,hget,u1,hgn,hnl,Nat.mul_one,Nat.zero_add];(repeat with_reducible refine aI ?_))
  have ln:=(nmAt vs (f (i+1))).2
  refine ⟨by rw [befN_len];exact k2,⟨by omega,ln⟩,by omega,ln,?_⟩
  have hpl:((pthN vs f i).map encH).length=i+1:=by rw [List.length_map,pthN_len]
  refine dapp_rowF elHs zeHs (by rw [byHs];omega) (hrow.imp id fun ⟨g,e1,_,e3⟩=>⟨g,e1,by rw [hpl];exact e3⟩) (by rw [hpl];omega) (fun d hd=>by obtain ⟨x,_,rfl⟩:=List.mem_map.1 hd;rw [szHs];exact width_encH x) (by rw [szHs];exact width_encH _) ?_
  rw [hpl]
  have hown:∀ g,own=.row g→T.next≤g:=fun g e=>by
   rcases hrow with e1 | ⟨g',e1,e2,e3⟩
   ·rw [e1] at e;cases e
   ·rw [e1] at e;injection e with e;subst e;exact e2
  have hsG:T.Sub (U.grow own 39 (i+1+1)):=⟨by rw [grow_next];have:=hsU.next;omega,fun j' o' e=>growR_keep hU (hsU.ob _ _ e) fun g eg ej=>by
   have:=hown g eg
   have:=hT.lt e
   omega⟩
  have hnew:(U.grow own 39 (i+1+1)).ob U.next=some (.row 39 (i+1+1)):=growR_new
  (refine dd5 @q0 @q8 @q10 @q12 @q13 ?_)
  refine ⟨by omega,_,fun _ _ h=>h,by omega,by exact di2 @nD.eq_1 @iD.eq_1,hsG,.row U.next,?_,.inr ⟨U.next,rfl,hsU.next,hnew⟩⟩
  rw [pthN_succ,List.map_append]
  rfl
 ·obtain rfl:i=m:=by omega
  have bb1:((f i:Int) != (b:Int))=false:=by
   rw [bne_eq_false_iff_eq];omega
  (refine dd8 @q0 @q8 @q10 @q12 @q13 @nD.eq_1 @iD.eq_1 @bb1 ?_)
  exact ⟨own,rfl,hsT.trans hsU⟩
theorem depth_at {S:St} {k:Nat} {F:Nat→Prop} {vs:List DVer} (hr:RegAt k F vs S) (hl:vs.length≤1000000) {h:H32} {a:Nat} (ha:findR vs h=some a) (m:Nat) (f:Nat→Nat) (hm:m≤1000000) (f0:f 0=a) (fm:f m<vs.length∧upOf vs (f m)<0) (hf:∀ i,i<m→f i<vs.length∧upOf vs (f i)=(f (i+1):Int)) :
  DCalls Tryz.prog 25 [.loc k 0,encH h] S (fun d T=>d=.v (.int .i64 ((m:Nat):Int))∧S.Sub T):=by
 obtain ⟨hal,han⟩:=findR_some ha
 refine dcalls_inline mixed Tryz.func25 rfl (fun _ _=>by kernel_rfl) (rs:=[.tmp 4]) rfl (by kernel_rfl) (fun hS=>?_)
 have l1:=h.2
 (refine dd1 @l1 ?_)
 generalize hX:St.add S _=S1
 have hs1:S.Sub S1:=by rw [← hX];exact (St.Sub.refl S).add hS _
 have hW1:S1.WF:=by rw [← hX];exact hS.add _
 clear hX
 have hr1:=hr.sub hs1
 refine go_at (find_at hr1 h) ?_
 rw [ha]
 (refine dd0 ?_)
 obtain ⟨ow,bb,q,c,es,zs,o,g1,g2,g3,g4,g5,g6⟩:=hr1.open (by omega)
 refine dloop_up (fun t=>List.contains [5,7,16,17,18,19,20,21,22,23,24,25,26,27,28,29,30,31,32,33,34] t) (by kernel_rfl) hW1 m (fun i q U=>i≤m∧q 5=nD (f i)∧q 7=.v (.int .i64 ((i:Nat):Int))∧S1.Sub U)
  ⟨Nat.zero_le _,by exact di3 @f0 @nD.eq_1 @iD.eq_1,by exact di0,St.Sub.refl _⟩ ?_
 rintro i qq U hU hg ⟨le,q5,q7,hsU⟩
 (have q0:=hg 0 rfl;have q4:=hg 4 rfl;simp (disch:=first | decide | omega | (simp only [nx];first | done | omega)) only [go_sem,nD,iD] at q0 q4;clear hg)
 have u1:=hsU.ob _ _ g1
 have u2:=hsU.ob _ _ g2
 have hfi:f i<vs.length:=by
  by_cases e:i<m
  ·exact (hf i e).1
  ·rw [show i=m by omega];exact fm.1
 have hget:=flatR_get (j:=0) g5 (g6 (f i) hfi) (by omega) zs
 rw [show (verD vs[f i] (o (f i)) (besL vs (f i))).cells.getD 0 undefD=.v (.int .i64 (upOf vs (f i))) by rw [upOf_lt hfi];rfl,Nat.add_zero] at hget
 have hfit:=flatR_fit g5 (g6 (f i) hfi) zs
 by_cases hlt:i<m
 ·have hfi1:=(hf i hlt).2
  have b1:decide (0≤upOf vs (f i))=true:=decide_eq_true (by omega)
  have w1:IntKind.i64.wrap ((i:Int)+1)=((i+1:Nat):Int):=IntWalk.i64_in _ ⟨by omega,by omega⟩
  (refine dd10 @q0 @q5 @q7 @nD.eq_1 @iD.eq_1 @u1 @u2 @hget @b1 @w1 ?_)
  exact ⟨hlt,_,fun _ _ h=>h,by omega,by exact di1 @hfi1,by exact di1 @w1,hsU⟩
 ·obtain rfl:i=m:=by omega
  have b1:decide (0≤upOf vs (f i))=false:=decide_eq_false (by omega)
  (refine dd9 @q0 @q5 @q7 @nD.eq_1 @iD.eq_1 @u1 @u2 @hget @b1 ?_)
  exact hs1.trans hsU
end
def edCs (vs:List DVer) (p:Nat × Nat):List D:=(nmAt vs p.1).1.map bD++((nmAt vs p.2).1.map bD++[.v (.bool (decide (upOf vs p.2=(p.1:Int))))])
def edD (vs:List DVer) (p:Nat × Nat):D:=.agg (edCs vs p)
theorem edCs_len (vs:List DVer) (p:Nat × Nat):(edCs vs p).length=65:=by
 have h1:=len_encH (nmAt vs p.1)
 have h2:=len_encH (nmAt vs p.2)
 simp only [edCs,List.length_append,h1,h2,List.length_singleton]
theorem width_edD (vs:List DVer) (p:Nat × Nat):(edD vs p).width=65:=edCs_len vs p
theorem cl_edD (vs:List DVer) (p:Nat × Nat):(edD vs p).cells.length=65:=edCs_len vs p
theorem okCell_edD (vs:List DVer) (p:Nat × Nat):(edD vs p).okCell=true:=rfl
theorem elEd:elT Tryz.prog 52=some 59:=by kernel_rfl
theorem szEd:szOf Tryz.prog 59=65:=by kernel_rfl
theorem byEd:bytesOf Tryz.prog 59≤1000:=by decide +kernel
theorem zeEd:zeroT Tryz.prog 59=true:=by kernel_rfl
def OutI (kc kr k:Nat) (vs:List DVer) (G:Nat→Prop) (e:List (Nat × Nat)) (S:St):Prop :=
 (∃ own,S.ob kc=some (.box 52 [.sl own (e.map (edD vs))])∧(own=.full∨∃ g,G g∧own=.row g∧S.ob g=some (.row 59 e.length)))∧S.ob kr=some (.box 30 [.loc k 0])∧G kc∧G kr∧∀ q,G q→q<S.next
theorem ed1 (a b:H32):(a.1.map bD++[D.v (.int .u8 0),D.v (.int .u8 0),D.v (.int .u8 0),D.v (.int .u8 0),D.v (.int .u8 0),D.v (.int .u8 0),D.v (.int .u8 0),D.v (.int .u8 0),D.v (.int .u8 0),D.v (.int .u8 0),D.v (.int .u8 0),D.v (.int .u8 0),D.v (.int .u8 0),D.v (.int .u8 0),D.v (.int .u8 0),D.v (.int .u8 0),D.v (.int .u8 0),D.v (.int .u8 0),D.v (.int .u8 0),D.v (.int .u8 0),D.v (.int .u8 0),D.v (.int .u8 0),D.v (.int .u8 0),D.v (.int .u8 0),D.v (.int .u8 0),D.v (.int .u8 0),D.v (.int .u8 0),D.v (.int .u8 0),D.v (.int .u8 0),D.v (.int .u8 0),D.v (.int .u8 0),D.v (.int .u8 0),D.v (Value.bool false)]).take 32++b.1.map bD++(a.1.map bD++[D.v (.int .u8 0),D.v (.int .u8 0),D.v (.int .u8 0),D.v (.int .u8 0),D.v (.int .u8 0),D.v (.int .u8 0),D.v (.int .u8 0),D.v (.int .u8 0),D.v (.int .u8 0),D.v (.int .u8 0),D.v (.int .u8 0),D.v (.int .u8 0),D.v (.int .u8 0),D.v (.int .u8 0),D.v (.int .u8 0),D.v (.int .u8 0),D.v (.int .u8 0),D.v (.int .u8 0),D.v (.int .u8 0),D.v (.int .u8 0),D.v (.int .u8 0),D.v (.int .u8 0),D.v (.int .u8 0),D.v (.int .u8 0),D.v (.int .u8 0),D.v (.int .u8 0),D.v (.int .u8 0),D.v (.int .u8 0),D.v (.int .u8 0),D.v (.int .u8 0),D.v (.int .u8 0),D.v (.int .u8 0),D.v (Value.bool false)]).drop 64=a.1.map bD++(b.1.map bD++[D.v (Value.bool false)]):=by
 have h:=len_encH a
 rw [List.take_append_of_le_length (by omega),List.take_of_length_le (by omega),List.drop_append,List.drop_of_length_le (by omega),h,List.nil_append,List.append_assoc]
 rfl
theorem ed2 (a b:H32) (x y:D):(a.1.map bD++(b.1.map bD++[x])).take 64++[y]++(a.1.map bD++(b.1.map bD++[x])).drop 65=a.1.map bD++(b.1.map bD++[y]):=by
 have h:=len_encH a
 have h':=len_encH b
 have hl:(a.1.map bD++(b.1.map bD++[x])).length=65:=by simp only [List.length_append,h,h',List.length_singleton]
 rw [List.drop_of_length_le (by omega),List.take_append,List.take_of_length_le (by omega),h,List.take_append_of_le_length (by omega),List.take_of_length_le (by omega)]
 simp
section
set_option maxRecDepth 200000
set_option maxHeartbeats 8000000
theorem reachO {kc kr k:Nat} {F:Nat→Prop} {vs:List DVer} (hne:kc ≠ kr) (hl:vs.length≤1000000):ReachI 38 [.loc kc 0,.loc kr 0] k F vs (OutI kc kr k vs):=by
 refine ⟨fun G e S a b hel hS ha hb hr hI hFG=>?_,fun G e S T h hs hn=>?_,fun G e S h=>h.2.2.2.2⟩
 ·obtain ⟨⟨own,h1,h2⟩,h3,h4,h5,h6⟩:=hI
  obtain ⟨ow,bb,q,c,es,zs,o,g1,g2,g3,g4,g5,g6⟩:=hr.open (by omega)
  refine dcalls_inline mixed Tryz.func38 rfl (fun _ _=>by kernel_rfl) (rs:=[]) rfl (by kernel_rfl) (fun hS=>?_)
  have hgn:∀ i,i<vs.length→((vs.map (·.name)).map encH).getD i undefD=encH (nmAt vs i):=fun i hi=>by
   rw [nmAt_lt hi]
   simp [List.getD,hi]
  have hga:=hgn a ha
  have hgb:=hgn b hb
  have hnl:((vs.map (·.name)).map encH).length=vs.length:=by simp
  have la:=(nmAt vs a).2
  have lb:=(nmAt vs b).2
  have hget:=flatR_get (j:=0) g5 (g6 b hb) (by omega) zs
  rw [show (verD vs[b] (o b) (besL vs b)).cells.getD 0 undefD=.v (.int .i64 (upOf vs b)) by rw [upOf_lt hb];rfl,Nat.add_zero] at hget
  have hfit:=flatR_fit g5 (g6 b hb) zs
  (refine dd0 ?_)
  refine ddraw_any (fun S'=>S'.ob k=some (.box 95 [.sl ow ((vs.map (·.name)).map encH),.win q 0 vs.length c,.v (.map (some bb))])∧S'.ob q=some (.box 99 (flat es++zs))∧S'.ob kr=some (.box 30 [.loc k 0])∧S'.ob kc=some (.box 52 [.sl own (e.map (edD vs))])) 28 (by exact di6 @g1 @g2 @h3 @h1 @true_and @and_true) (by kernel_rfl) ?_
  (have F:=pk7 @nD.eq_1 @iD.eq_1 @hga @hgb @hnl @la @lb;refine stq F 0 ?_;refine stq F 1 ?_;refine stq F 2 ?_;refine stq F 3 ?_;refine stq F 4 ?_;refine stq F 5 ?_;refine stq F 6 ?_;refine stq F 7 ?_;clear F)
  (have F:=pk7 @nD.eq_1 @iD.eq_1 @hga @hgb @hnl @la @lb;refine stq F 8 ?_;refine stq F 9 ?_;refine stq F 10 ?_;refine stq F 11 ?_;refine stq F 12 ?_;refine stq F 13 ?_;refine stq F 14 ?_;clear F)
  (have F:=pk5 @nD.eq_1 @iD.eq_1 @hget @Nat.mul_one @Nat.zero_add;refine stq F 15 ?_;refine stq F 16 ?_;refine stq F 17 ?_;refine stq F 18 ?_;refine stq F 19 ?_;refine stq F 20 ?_;refine stq F 21 ?_;refine stq F 22 ?_;refine stq F 23 ?_;refine stq F 24 ?_;clear F)
  refine s_take 25 rfl (by kernel_rfl) (by kernel_rfl) (v:=edD vs (a,b)) (fun S' hz=>dquietR_of ?hqc) ?kqc
  case hqc =>
   (refine dd2 @la @lb ?_)
   rw [ed1,ed2]
   refine ⟨⟨?_,?_⟩,rfl⟩
   ·simp only [List.length_append,len_encH,List.length_cons,List.length_nil];omega
   ·rw [List.length_append,List.length_append,len_encH,len_encH];exact Nat.le_refl _
  (have F:=pk3 @cl_edD @okCell_edD @width_edD;refine stq F 26 ?_;clear F)
  (refine s_one 27 ?_;(refine dd0 ?_))
  have hel2:(e.map (edD vs)).length=e.length:=List.length_map _
  refine dapp_rowF elEd zeEd byEd (h2.imp id fun ⟨g,_,e1,e2⟩=>⟨g,e1,by rw [hel2];exact e2⟩) (by rw [hel2];omega) (fun d hd=>by obtain ⟨x,_,rfl⟩:=List.mem_map.1 hd;rw [szEd];exact width_edD vs x) (by rw [szEd];exact width_edD vs _) ?_
  rw [hel2]
  have hown:∀ g,own=.row g→G g∧S.ob g=some (.row 59 e.length):=fun g e1=>by
   rcases h2 with e2 | ⟨g',q1,e2,q3⟩
   ·rw [e2] at e1;cases e1
   ·rw [e2] at e1;injection e1 with e1;subst e1;exact ⟨q1,q3⟩
  have keep:∀ j t cs,S.ob j=some (.box t cs)→(S.grow own 59 (e.length+1)).ob j=some (.box t cs):=fun j t cs ej=>growR_keep hS ej fun g eg e2=>by
   have:=(hown g eg).2
   rw [← e2,ej] at this
   cases this
  have z1:=keep _ _ _ g1
  have z2:=keep _ _ _ g2
  have z3:=keep _ _ _ h3
  have z4:=keep _ _ _ h1
  refine ⟨⟨z1,z2,z3,z4⟩,?_⟩
  (refine s_done (by kernel_rfl) ?_;(refine dd4 @z1 @z2 @z3 @z4 ?_))
  have hnew:(S.grow own 59 (e.length+1)).ob S.next=some (.row 59 (e.length+1)):=growR_new
  have hnx:(S.grow own 59 (e.length+1)).next=S.next+1:=grow_next _ _ _ _
  have hold:∀ j o,S.ob j=some o→¬ G j→(S.grow own 59 (e.length+1)).ob j=some o:=fun j o ej hj=>growR_keep hS ej fun g eg e2=>hj (by rw [e2];exact (hown g eg).1)
  have hkc:=hS.lt h1
  generalize S.grow own 59 (e.length+1)=S2 at *
  refine ⟨fun q=>G q∨q=S.next,⟨⟨.row S.next,?_,.inr ⟨S.next,.inr rfl,rfl,?_⟩⟩,?_,.inl h4,.inl h5,fun q hq=>?_⟩,fun q hq=>hq.imp id (fun e=>by omega),fun q o hq e=>?_,?_⟩
  ·simp only [St.set,if_true,List.map_append];rfl
  ·simp only [St.set]
   rw [if_neg (by omega),List.length_append]
   exact hnew
  ·simp only [St.set];rw [if_neg (fun e=>hne e.symm)];exact z3
  ·show q<S2.next
   rcases hq with hq | rfl
   ·have:=h6 q hq;omega
   ·omega
  ·simp only [St.set]
   rw [if_neg (fun e2=>hq (by rw [e2];exact h4))]
   exact hold q o e hq
  ·show S.next≤S2.next
   omega
 ·obtain ⟨⟨own,h1,h2⟩,h3,h4,h5,h6⟩:=h
  refine ⟨⟨own,hs _ _ h4 h1,h2.imp id fun ⟨g,q1,q2,q3⟩=>⟨g,q1,q2,hs _ _ q1 q3⟩⟩,hs _ _ h5 h3,h4,h5,fun q hq=>Nat.lt_of_lt_of_le (h6 q hq) hn⟩
theorem out_at {S:St} {k:Nat} {F:Nat→Prop} {vs:List DVer} (hr:RegAt k F vs S) (hl:vs.length≤1000000) {h:H32} {a:Nat} (ha:findR vs h=some a) :
  DCalls Tryz.prog 15 [.loc k 0,encH h] S (fun d T=>(∃ own,d=.sl own ((outW vs a).map (edD vs)))∧S.Sub T):=by
 obtain ⟨hal,han⟩:=findR_some ha
 refine dcalls_inline mixed Tryz.func15 rfl (fun _ _=>by kernel_rfl) (rs:=[.tmp 4]) rfl (by kernel_rfl) (fun hS=>?_)
 have l1:=h.2
 (refine dd1 @l1 ?_)
 generalize hX:St.add (St.add S _) _=S1
 have hs1:S.Sub S1:=by rw [← hX];exact ((St.Sub.refl S).add hS _).add hS _
 have hW1:S1.WF:=by rw [← hX];exact (hS.add _).add _
 have hn1:S1.next=S.next+2:=by rw [← hX];rfl
 have b1:S1.ob S.next=some (.box 30 [.loc k 0]):=by rw [← hX];exact di0
 have b2:S1.ob (S.next+1)=some (.box 39 (h.1.map bD)):=by rw [← hX];exact di0
 clear hX
 have hr1:=hr.sub hs1
 refine go_at (find_at hr1 h) ?_
 rw [ha]
 (refine dd3 @b1 @b2 @l1 ?_)
 generalize hX:St.add S1 _=S2
 have hs2:S1.Sub S2:=by rw [← hX];exact (St.Sub.refl S1).add hW1 _
 have hW2:S2.WF:=by rw [← hX];exact hW1.add _
 have hn2:S2.next=S1.next+1:=by rw [← hX];rfl
 have c1:S2.ob S1.next=some (.box 52 [.sl .full []]):=by rw [← hX];exact di0
 have c2:=hs2.ob _ _ b1
 clear hX
 have hr2:=hr1.sub hs2
 have hsS:=hs1.trans hs2
 refine DCalls.mono (DCalls.wf (walk_at hr2 hal hl (reachO (k:=k) (F:=F) (kc:=S1.next) (kr:=S.next) (by omega) hl) (G0:=fun q=>q=S1.next∨q=S.next) ⟨⟨.full,c1,.inl rfl⟩,c2,.inl rfl,.inr rfl,fun q hq=>by rcases hq with rfl | rfl <;> omega⟩ (fun q hq h=>by have:=hr.lt q hq;rcases h with rfl | rfl <;> omega))) ?_
 rintro d T ⟨⟨rfl,G',⟨⟨own,e1,_⟩,_⟩,hG',hfr⟩,hT⟩
 have hsT:S.Sub T:=⟨by have:=hfr.next;have:=hsS.next;omega,fun q o e=>hfr.ob _ _ (by have:=hS.lt e;omega) (hsS.ob _ _ e)⟩
 (refine dd1 @e1 ?_)
 exact ⟨⟨own,rfl⟩,hsT⟩
end
def erO' (n:Int):D:=if n=0 then .v .nilIface else erD' n
def addR (vs:List DVer) (name from_:H32) (l:DLens) (tg:DSch→DSch × Int):List DVer × Int :=
 match findR vs from_ with
 | none=>(vs,7)
 | some k=>if (findR vs name).isSome then (vs,8) else
  if (tg ((vs[k]?.map (·.sch)).getD zeroS)).2 ≠ 0 then (vs,(tg ((vs[k]?.map (·.sch)).getD zeroS)).2) else (vs++[⟨name,(k:Int),l,(tg ((vs[k]?.map (·.sch)).getD zeroS)).1⟩],0)
theorem verCs_sch (v:DVer) (o:Own) (b:List Nat):((verCs v o b).drop 21).take 3=(encS v.sch).cells:=by
 have h1:=cells_encL v.lens
 have h2:=cells_encS v.sch
 simp only [verCs,List.drop_succ_cons]
 rw [List.drop_append,List.drop_of_length_le (by omega),h1,List.nil_append,Nat.sub_self,List.drop_zero,List.take_append_of_le_length (by omega),List.take_of_length_le (by omega)]
theorem verCs_lens (v:DVer) (o:Own) (b:List Nat):((verCs v o b).drop 1).take 20=(encL v.lens).cells:=by
 have h1:=cells_encL v.lens
 simp only [verCs,List.drop_succ_cons,List.drop_zero]
 rw [List.take_append_of_le_length (by omega),List.take_of_length_le (by omega)]
theorem cells_lCs (l:DLens):(encL l).cells=lCs l (.sl .no (l.pairs.map encPr)) (.sl .no (l.inner.map encL)):=by rw [encL_lCs];rfl
theorem ver_lCs (a:Nat) (name:H32) (l:DLens) (t:DSch):D.agg (D.v (.int .i64 (a:Int))::(lCs l (.sl .no (l.pairs.map encPr)) (.sl .no (l.inner.map encL))++(sCs t++[.sl .full []])))=verD ⟨name,(a:Int),l,t⟩ .full []:=by
 unfold verD verCs
 rw [cells_lCs,cells_sCs]
 rfl
section
set_option maxRecDepth 200000
set_option maxHeartbeats 8000000
theorem add_at {S:St} {k:Nat} {F:Nat→Prop} {vs:List DVer} (hr:RegAt k F vs S) (hw:WfR vs) (hne:0<vs.length) (hl:vs.length≤1000000) (name from_:H32) (l:DLens) (hrm:roomL 8 l=true) (hok:okL l) (tg:DSch→DSch × Int)
  (hT:∀ i (hi:i<vs.length),DPure Tryz.prog 42 [encL l,encS vs[i].sch] (.tup [encS (tg vs[i].sch).1,erO' (tg vs[i].sch).2])) :
  DCalls Tryz.prog 20 [.loc k 0,encH name,encH from_,encL l] S (fun d T=>d=erO' (addR vs name from_ l tg).2∧∃ F',RegAt k F' (addR vs name from_ l tg).1 T∧(∀ q,F' q→F q∨S.next≤q)∧FrN F S T):=by
 refine dcalls_inline mixed Tryz.func20 rfl (fun _ _=>by kernel_rfl) (rs:=[.tmp 8]) rfl (by kernel_rfl) (fun hS=>?_)
 have l1:=name.2
 have l2:=from_.2
 (refine dd2 @l1 @l2 ?_)
 generalize hX:St.add (St.add (St.add S _) _) _=S1
 have hs1:S.Sub S1:=by rw [← hX];exact (((St.Sub.refl S).add hS _).add hS _).add hS _
 have hW1:S1.WF:=by rw [← hX];exact ((hS.add _).add _).add _
 have hn1:S1.next=S.next+3:=by rw [← hX];rfl
 have b1:S1.ob S.next=some (.box 39 (name.1.map bD)):=by rw [← hX];exact di0
 have b2:S1.ob (S.next+1)=some (.box 39 (from_.1.map bD)):=by rw [← hX];exact di0
 have b3:S1.ob (S.next+1+1)=some (.box 47 (encL l).cells):=by rw [← hX];exact di0
 clear hX
 have hr1:=hr.sub hs1
 refine go_at (find_at hr1 from_) ?_
 cases ha:findR vs from_ with
 | none =>
  have c1:(none:Option Nat).isSome=false:=rfl
  have e1:addR vs name from_ l tg=(vs,7):=by simp [addR,ha]
  (refine dd5 @c1 @b1 @b2 @l1 @l2 ?_)
  rw [e1]
  exact ⟨rfl,F,hr1,fun q h=>.inl h,FrN.of_sub hs1⟩
 | some a =>
  obtain ⟨hal,han⟩:=findR_some ha
  have c1:(some a).isSome=true:=rfl
  (refine dd5 @c1 @b1 @b2 @l1 @l2 ?_)
  refine go_at (find_at hr1 name) ?_
  cases hn:findR vs name with
  | some b =>
   have c2:(some b).isSome=true:=rfl
   have e1:addR vs name from_ l tg=(vs,8):=by simp [addR,ha,hn]
   (refine dd5 @c2 @b1 @b2 @l1 @l2 ?_)
   rw [e1]
   exact ⟨rfl,F,hr1,fun q h=>.inl h,FrN.of_sub hs1⟩
  | none =>
   have c2:(none:Option Nat).isSome=false:=rfl
   obtain ⟨ow,bb,q,c,es,zs,o,g1,g2,g3,g4,g5,g6⟩:=hr1.open hne
   have hget:=flatR_part (a:=21) (b:=3) g5 (g6 a hal) (by omega) zs
   rw [show (verD vs[a] (o a) (besL vs a)).cells=verCs vs[a] (o a) (besL vs a) from rfl,verCs_sch] at hget
   have hfit:=flatR_fit g5 (g6 a hal) zs
   (refine dd5 @c2 @b1 @b2 @l1 @l2 ?_)
   refine ddraw_any (fun S'=>S'.ob k=some (.box 95 [.sl ow ((vs.map (·.name)).map encH),.win q 0 vs.length c,.v (.map (some bb))])∧S'.ob q=some (.box 99 (flat es++zs))∧S'.ob (S.next+1+1)=some (.box 47 (encL l).cells)) 16 (by exact di5 @g1 @g2 @b3 @true_and @and_true) (by kernel_rfl) ?_
   (have F:=pk2 @hget @Option.getD_some.{0};refine stq F 0 ?_;refine stq F 1 ?_;refine stq F 2 ?_;refine stq F 3 ?_;refine stq F 4 ?_;refine stq F 5 ?_;refine stq F 6 ?_;refine stq F 7 ?_;refine stq F 8 ?_;clear F)
   (refine stk 9 (v:=?v10) (fun S' hz=>dquietR_of ?h10) ?k10;(case h10=>((refine dd1 @hz ?_);refine dqgo_mk (hT a hal) ?_;exact rfl)))
   (have F:=trivial;refine stq F 10 ?_;refine stq F 11 ?_;refine stq F 12 ?_;clear F)
   (refine s_one 13 ?_;(refine dd0 ?_))
   have hsA:S1.Sub (S1.add (.box 25 [.v (.int .i64 0),.sl .full [],.sl .full []])):=(St.Sub.refl S1).add hW1 _
   refine ⟨⟨hsA.ob _ _ g1,hsA.ob _ _ g2,by first | exact b3 | exact hsA.ob _ _ b3⟩,?_⟩
   (refine s_one 14 ?_;(refine dd0 ?_))
   have hsB:S1.Sub ((S1.add (.box 25 [.v (.int .i64 0),.sl .full [],.sl .full []])).set S1.next (.box 25 (encS (tg vs[a].sch).1).cells)):=hsA.set hW1 (Nat.le_refl _) _
   refine ⟨⟨hsB.ob _ _ g1,hsB.ob _ _ g2,by first | exact b3 | exact hsB.ob _ _ b3⟩,?_⟩
   (have F:=trivial;refine stq F 15 ?_;clear F)
   (refine s_done (by kernel_rfl) ?_;(refine dd1 @Option.getD_some.{0} ?_))
   generalize hX:St.set (St.add S1 _) _ _=S2 at *
   have hW2:S2.WF:=by rw [← hX];exact (hW1.add _).set (Nat.lt_succ_self _) _
   have b4:S2.ob S1.next=some (.box 25 (encS (tg vs[a].sch).1).cells):=by rw [← hX];exact di0
   clear hX
   have hsS:=hs1.trans hsB
   have hsch:(vs[a]?.map (·.sch)).getD zeroS=vs[a].sch:=by simp [hal]
   by_cases hc:(tg vs[a].sch).2=0
   ·have e0:erO' (tg vs[a].sch).2=.v .nilIface:=by unfold erO';rw [if_pos hc]
    have e1:addR vs name from_ l tg=(vs++[⟨name,(a:Int),l,(tg vs[a].sch).1⟩],0):=by simp [addR,ha,hn,hal,hc]
    have nn:dbin Tryz.prog .neq 66 (.tmp 48) (.const .nilIface) (.v .nilIface) (.v .nilIface)=some (True,.v (.bool false)):=by kernel_rfl
    rw [e0]
    (refine dd1 @nn ?_)
    have bn:=hsB.ob _ _ b1
    have bl:=hsB.ob _ _ b3
    have lc:=cells_encS (tg vs[a].sch).1
    refine ddraw_any (fun S'=>S'.ob S.next=some (.box 39 (name.1.map bD))∧S'.ob (S.next+1+1)=some (.box 47 (encL l).cells)∧S'.ob S1.next=some (.box 25 (encS (tg vs[a].sch).1).cells)) 8 (by exact di5 @bn @bl @b4 @true_and @and_true) (by kernel_rfl) ?_
    (have F:=pk2 @l1 @Option.getD_some.{0};refine stq F 0 ?_;refine stq F 1 ?_;refine stq F 2 ?_;refine stq F 3 ?_;clear F)
    (refine stk 4 (v:=?v19) (fun S' hz=>dquietR_of ?h19) ?k19;(case h19=>((refine dd1 @hz ?_);refine dqgo_mk (copyL_d 8 l hrm hok) ?_;exact rfl)))
    (have F:=trivial;refine stq F 5 ?_;clear F)
    (refine s_take 6 rfl (by kernel_rfl) (by kernel_rfl) (v:=D.agg (D.v (.int .i64 (a:Int))::(lCs l (.sl .no (l.pairs.map encPr)) (.sl .no (l.inner.map encL))++(sCs (tg vs[a].sch).1++[.sl .full []])))) (fun S' hz=>dquietR_of (by (simp (disch:=first | decide | omega | (simp only [nx];first | done | omega)) only [go_sem,cells_lCs,lCs,cells_sCs,sCs];(repeat with_reducible refine aI ?_));first | done | rfl | omega)) ?_)
    (refine s_one 7 ?_;(refine dd0 ?_))
    rw [ver_lCs a name]
    have hr2:RegAt k F vs S2:=hr.sub hsS
    have hn2:=hsB.next
    refine DCalls.mono (DCalls.wf (reg_a hr2 ⟨name,(a:Int),l,(tg vs[a].sch).1⟩ hw (.inr ⟨by show (0:Int)≤(a:Int);omega,by show (a:Int)<_;omega⟩) hn hl)) ?_
    rintro d T ⟨⟨rfl,F',hrT,hF,hfr⟩,hT2⟩
    have nF:∀ q,S.next≤q→¬ F q:=fun q h1 h2=>by have:=hr.lt q h2;omega
    have t1:=hfr.ob _ _ (nF _ (by omega)) bn
    have t2:=hfr.ob _ _ (nF _ (by omega)) bl
    have t3:=hfr.ob _ _ (nF _ (by omega)) b4
    refine ⟨⟨t1,t2,t3⟩,?_⟩
    (refine s_done (by kernel_rfl) ?_;(refine dd3 @t1 @t2 @t3 ?_))
    rw [e1]
    exact ⟨rfl,F',hrT,fun q hq=>(hF q hq).imp id (fun h=>by have:=hsS.next;omega),fun q o hq e=>hfr.ob _ _ hq (hsS.ob _ _ e),by have:=hsS.next;have:=hfr.next;omega⟩
   ·have e0:erO' (tg vs[a].sch).2=erD' (tg vs[a].sch).2:=by unfold erO';rw [if_neg hc]
    have e1:addR vs name from_ l tg=(vs,(tg vs[a].sch).2):=by simp [addR,ha,hn,hal,hc]
    rw [e0]
    (refine dd1 @erD'.eq_1 ?_)
    rw [e1]
    exact ⟨e0.symm,F,hr.sub hsS,fun q h=>.inl h,FrN.of_sub hsS⟩
end
section
set_option maxRecDepth 200000
set_option maxHeartbeats 8000000
theorem target_d:∀ (n k:Nat) (l:DLens) (d:Nat) (s:DSch),Lo k n l→d≤5→rightS d s=true→okS s→DPure Tryz.prog 55 [encL l,encS s] (tupBs (targetS n l s)):=by
 intro n
 induction n with
 | zero=>intro k l d s hl;exact absurd hl.right (by simp [rightL])
 | succ n ih =>
  intro k l d s hl hd hr hsk
  have ho:=(okL_eq l).1 hl.ok
  have hsw:Wt s 42129:=⟨hsk,Nat.le_trans (rightS_wB d s hr) (wB_le5 hd)⟩
  have hsw2:=hsw.2
  have hr5:=rightS_le hr hd
  have fin:∀ {x:DSch} {y:D} {b c:Bool} {r:DSch × Bool},r=(x,c)→b=c→y.frz=encS x→(D.tup [y,.v (.bool b)]).frz=tupBs r:=fun h h2 h3=>by rw [h,h2];simp only [D.frz,frzL,h3,tupBs]
  refine dpure_of_dwp mixed Tryz.func55 rfl (fun _ _=>by kernel_rfl) (rs:=[.cell 4 25,.tmp 5]) rfl (by kernel_rfl) (tupBs_cl _) (fun S hS=>?_)
  (refine dd1 (encL_eq l) ?_)
  refine DCalls.of_pure (record_d s l.a hsk (by omega)) ?_
  cases h5:s.kind == 5 with
  | false =>
   have he:targetS (n+1) l s=(s,false):=by rw [targetS,if_neg (fun h=>by rw [h.1] at h5;cases h5)]
   (refine dd1 @h5 ?_)
   refine pendL ?_
   exact fin he rfl (frz_encS _)
  | true =>
  have k5:s.kind=5:=by simpa using h5
  (refine dd1 @h5 ?_)
  refine DCalls.of_pure (schRight_d s hsk) ?_
  (refine dd1 @hr5 ?_)
  refine DCalls.of_pure (fieldS_d s l.a hsk (by omega)) ?_
  have hA:=field_wt l.a hsw (by omega)
  by_cases kk:l.kind≤5
  ·have b1:decide (l.kind≤5)=true:=decide_eq_true kk
   have hbw:=besideS_wt (has:=(fieldS s l.a).isSome) hl.ok hl.typ.2 hsw hA (by omega) (by omega) (by omega)
   have he:targetS (n+1) l s=((besideS l s ((fieldS s l.a).getD zeroS) (fieldS s l.a).isSome).1,(besideS l s ((fieldS s l.a).getD zeroS) (fieldS s l.a).isSome).2 && rightS 5 (besideS l s ((fieldS s l.a).getD zeroS) (fieldS s l.a).isSome).1):=by rw [targetS,if_pos ⟨k5,hr5⟩,if_pos kk]
   (refine dd2 @tupS.eq_1 @b1 ?_)
   rw [aggL_fold]
   refine DCalls.of_pure (beside_d l s _ _ hl.ok hl.typ.2 (hsw.le (by omega)) (hA.le (by omega))) ?_
   generalize besideS l s ((fieldS s l.a).getD zeroS) (fieldS s l.a).isSome=r at he hbw ⊢
   (refine dd1 @tupBs.eq_1 ?_)
   refine ddraw_any (fun S'=>S'.ob (S.next+1+1+1+1)=some (.box 25 (encS r.1).cells)) 8 (by exact di0) (by kernel_rfl) ?_
   (have F:=trivial;refine stq F 0 ?_;refine stq F 1 ?_;refine stq F 2 ?_;clear F)
   cases h2:r.2 with
   | false =>
    (refine s_skipG 3 rfl rfl rfl (by first | (left;(first | (simp (disch:=first | decide | omega | (simp only [nx];first | done | omega)) only [go_sem,h2];first | done | rfl) | rfl);done) | (right;(first | (simp (disch:=first | decide | omega | (simp only [nx];first | done | omega)) only [go_sem,h2];first | done | rfl) | rfl);done)) (by kernel_rfl) (by kernel_rfl) ?_;refine s_skipG 4 rfl rfl rfl (by first | (left;(first | (simp (disch:=first | decide | omega | (simp only [nx];first | done | omega)) only [go_sem,h2];first | done | rfl) | rfl);done) | (right;(first | (simp (disch:=first | decide | omega | (simp only [nx];first | done | omega)) only [go_sem,h2];first | done | rfl) | rfl);done)) (by kernel_rfl) (by kernel_rfl) ?_)
    (have F:=@h2;refine stq F 5 ?_;clear F)
    (refine s_one 6 ?_;(refine dd0 ?_))
    (have F:=trivial;refine stq F 7 ?_;clear F)
    (refine s_done (by kernel_rfl) ?_;(refine dd0 ?_))
    refine pendL ?_
    exact fin he (by rw [h2];rfl) (frz_encS _)
   | true =>
    (refine s_takeG 3 rfl rfl rfl (by (first | (simp (disch:=first | decide | omega | (simp only [nx];first | done | omega)) only [go_sem,h2,hz];first | done | rfl) | rfl)) (by kernel_rfl) (by kernel_rfl) (v:=?v6) (fun S' hz=>dquietR_of ?h6) ?k6;(case h6=>exact dx3 @h2 @hz @hz))
    (refine s_takeG 4 rfl rfl rfl (by (first | (simp (disch:=first | decide | omega | (simp only [nx];first | done | omega)) only [go_sem,h2];first | done | rfl) | rfl)) (by kernel_rfl) (by kernel_rfl) (v:=?v7) (fun S' hz=>dquietR_of ?h7) ?k7;(case h7=>((refine dd2 @h2 @hz ?_);refine dqgo_mk (schRight_d _ hbw.1) ?_;exact rfl)))
    (have F:=@h2;refine stq F 5 ?_;clear F)
    (refine s_one 6 ?_;(refine dd0 ?_))
    (have F:=trivial;refine stq F 7 ?_;clear F)
    (refine s_done (by kernel_rfl) ?_;(refine dd0 ?_))
    refine pendL ?_
    exact fin he (by rw [h2];rfl) (frz_encS _)
  ·have b1:decide (l.kind≤5)=false:=decide_eq_false kk
   cases hf:(fieldS s l.a).isSome with
   | false =>
    have he:targetS (n+1) l s=(s,false):=by rw [targetS,if_pos ⟨k5,hr5⟩,if_neg kk,if_neg (by rw [hf];decide)]
    (refine dd3 @tupS.eq_1 @b1 @hf ?_)
    refine pendL ?_
    exact fin he rfl (frz_encS _)
   | true =>
    cases d with
    | zero=>cases hr
    | succ d =>
    have ha:=field_right hr hf
    have he:targetS (n+1) l s=(withS s l.a (withinS (targetS n) l ((fieldS s l.a).getD zeroS)).1,(withinS (targetS n) l ((fieldS s l.a).getD zeroS)).2 && rightS 5 (withS s l.a (withinS (targetS n) l ((fieldS s l.a).getD zeroS)).1)):=by rw [targetS,if_pos ⟨k5,hr5⟩,if_neg kk,if_pos hf]
    have hiw:=withinS_wt hl (by omega) hd ha hA.1
    (refine dd3 @tupS.eq_1 @b1 @hf ?_)
    rw [aggL_fold]
    refine DCalls.of_pure (within_d n d k l _ hl (by omega) (by omega) ha hA.1 fun k' x d' s' h1 h2 h3 h4=>ih k' x d' s' h1 (by omega) h3 h4) ?_
    generalize withinS (targetS n) l ((fieldS s l.a).getD zeroS)=r at he hiw ⊢
    have hr1:r.1.weight≤100000:=by have:=hiw.2;have:=wB_le4 (d:=d) (by omega);unfold tB at *;omega
    (refine dd1 @tupBs.eq_1 ?_)
    refine DCalls.of_pure (withS_d s r.1 l.a hsk hiw.1 (by omega) hr1 ho.2.1) ?_
    have hbw:=withS_wt (x:=l.a) hsw (⟨hiw.1,hr1⟩:Wt r.1 100000) ho.2.1 (by omega)
    (refine dd0 ?_)
    refine ddraw_any (fun S'=>S'.ob (S.next+1+1+1+1+1)=some (.box 25 (encS (withS s l.a r.1)).cells)) 8 (by exact di0) (by kernel_rfl) ?_
    (have F:=trivial;refine stq F 0 ?_;refine stq F 1 ?_;refine stq F 2 ?_;clear F)
    cases h2:r.2 with
    | false =>
     (refine s_skipG 3 rfl rfl rfl (by first | (left;(first | (simp (disch:=first | decide | omega | (simp only [nx];first | done | omega)) only [go_sem,h2];first | done | rfl) | rfl);done) | (right;(first | (simp (disch:=first | decide | omega | (simp only [nx];first | done | omega)) only [go_sem,h2];first | done | rfl) | rfl);done)) (by kernel_rfl) (by kernel_rfl) ?_;refine s_skipG 4 rfl rfl rfl (by first | (left;(first | (simp (disch:=first | decide | omega | (simp only [nx];first | done | omega)) only [go_sem,h2];first | done | rfl) | rfl);done) | (right;(first | (simp (disch:=first | decide | omega | (simp only [nx];first | done | omega)) only [go_sem,h2];first | done | rfl) | rfl);done)) (by kernel_rfl) (by kernel_rfl) ?_)
     (have F:=@h2;refine stq F 5 ?_;clear F)
     (refine s_one 6 ?_;(refine dd0 ?_))
     (have F:=trivial;refine stq F 7 ?_;clear F)
     (refine s_done (by kernel_rfl) ?_;(refine dd0 ?_))
     refine pendL ?_
     exact fin he (by rw [h2];rfl) (frz_encS _)
    | true =>
     (refine s_takeG 3 rfl rfl rfl (by (first | (simp (disch:=first | decide | omega | (simp only [nx];first | done | omega)) only [go_sem,h2,hz];first | done | rfl) | rfl)) (by kernel_rfl) (by kernel_rfl) (v:=?v15) (fun S' hz=>dquietR_of ?h15) ?k15;(case h15=>exact dx3 @h2 @hz @hz))
     (refine s_takeG 4 rfl rfl rfl (by (first | (simp (disch:=first | decide | omega | (simp only [nx];first | done | omega)) only [go_sem,h2];first | done | rfl) | rfl)) (by kernel_rfl) (by kernel_rfl) (v:=?v16) (fun S' hz=>dquietR_of ?h16) ?k16;(case h16=>((refine dd2 @h2 @hz ?_);refine dqgo_mk (schRight_d _ hbw.1) ?_;exact rfl)))
     (have F:=@h2;refine stq F 5 ?_;clear F)
     (refine s_one 6 ?_;(refine dd0 ?_))
     (have F:=trivial;refine stq F 7 ?_;clear F)
     (refine s_done (by kernel_rfl) ?_;(refine dd0 ?_))
     refine pendL ?_
     exact fin he (by rw [h2];rfl) (frz_encS _)
noncomputable def tgS (l:DLens) (s:DSch):DSch × Int :=
 if rightL 5 l=true then (if (targetS 5 l s).2=true then ((targetS 5 l s).1,0) else (zeroS,13)) else (zeroS,1)
theorem erO'_cl (n:Int):(erO' n).closed:=by
 unfold erO'
 split <;> simp [D.closed,D.all,erD']
theorem Target_d (k:Nat) (l:DLens) (d:Nat) (s:DSch) (hk:roomL k l=true) (hok:okL l) (hd:d≤5) (hr:rightS d s=true) (hsk:okS s) :
  DPure Tryz.prog 42 [encL l,encS s] (.tup [encS (tgS l s).1,erO' (tgS l s).2]):=by
 have fin:∀ {y e:D} {r:DSch × Int},y.frz=encS r.1→e.frz=erO' r.2→(D.tup [y,e]).frz=.tup [encS r.1,erO' r.2]:=fun h h2=>by simp only [D.frz,frzL,h,h2]
 refine dpure_of_dwp mixed Tryz.func42 rfl (fun _ _=>by kernel_rfl) (rs:=[.cell 4 25,.tmp 5]) rfl (by kernel_rfl) (by simp only [D.closed,D.all,allL,and_true];exact ⟨closed_encS _,erO'_cl _⟩) (fun S hS=>?_)
 (refine dd0 ?_)
 refine DCalls.of_pure (lensRight_d k l hk hok) ?_
 cases h1:rightL 5 l with
 | false =>
  have he:tgS l s=(zeroS,1):=by rw [tgS,if_neg (by rw [h1];decide)]
  (refine dd0 ?_)
  refine pendL ?_
  rw [he]
  exact fin (r:=(zeroS,1)) (by rw [encS_eq zeroS];rfl) rfl
 | true =>
  (refine dd0 ?_)
  refine DCalls.of_pure (target_d 5 k l d s ⟨hk,hok,h1⟩ hd hr hsk) ?_
  have hw:=targetS_wt 5 d k l s ⟨hk,hok,h1⟩ hd hr hsk
  cases h2:(targetS 5 l s).2 with
  | false =>
   have he:tgS l s=(zeroS,13):=by rw [tgS,if_pos h1,if_neg (by rw [h2];decide)]
   (refine dd2 @tupBs.eq_1 @h2 ?_)
   refine pendL ?_
   rw [he]
   exact fin (r:=(zeroS,13)) (by rw [encS_eq zeroS];rfl) rfl
  | true =>
   have he:tgS l s=((targetS 5 l s).1,0):=by rw [tgS,if_pos h1,if_pos h2]
   (refine dd2 @tupBs.eq_1 @h2 ?_)
   refine DCalls.of_pure (schCopy_d _ hw.1 (by have:=hw.2;have:=wB_le5 hd;unfold tB at *;omega)) ?_
   (refine dd0 ?_)
   refine pendL ?_
   rw [he]
   exact fin (r:=((targetS 5 l s).1,0)) (frz_encS _) rfl
theorem tgS_right {l:DLens} {s:DSch} (h:(tgS l s).2=0):rightS 5 (tgS l s).1=true:=by
 unfold tgS at h ⊢
 split at h
 ·rename_i h1
  split at h
  ·rename_i h2
   rw [if_pos h1,if_pos h2]
   show rightS 5 (targetS 5 l s).1=true
   unfold targetS at h2 ⊢
   split at h2
   ·rename_i h3
    rw [if_pos h3]
    split at h2
    ·rename_i h4
     rw [if_pos h4]
     simp only [Bool.and_eq_true] at h2
     exact h2.2
    ·rename_i h4
     rw [if_neg h4]
     split at h2
     ·rename_i h5
      rw [if_pos h5]
      simp only [Bool.and_eq_true] at h2
      exact h2.2
     ·cases h2
   ·cases h2
  ·cases h
 ·cases h
end
end Go.Proofs.YtogbklnkpjjkoaaGreatDoor
