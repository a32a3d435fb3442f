/- MessageApart answers true for any two messages, and leaves its arguments as they were. Conditions: none but the statement's own. -/
import Derived.Test.YtonncfminojejaaMA5
import Derived.Test.YtonncfminojejaaProg
import Derived.Shelf.Abstract
import Derived.WalkKit
import Derived.OwnWalkIn
import Derived.TacticsInMore
import Derived.LoopNIn
import Derived.LoopIn
import Derived.BigRegionIn
import Derived.Test.YtonncfminojejaaRows
set_option linter.unusedVariables false
set_option linter.unusedSimpArgs false
namespace Go.Proofs.Ytonncfminojejaa
open Go.RowKit

theorem loopO_cell {W : World} {l : Nat} {o : Obj} (h : W.heap[l]? = some o) (ho : isLoopO o = true) (i : Nat) : W.cell? ⟨l, i, none⟩ = none := by
  unfold World.cell?
  rw [h]
  cases o <;> first | rfl | cases ho
theorem put_cell {W : World} {l : Nat} {o o' : Obj} (h : W.heap[l]? = some o) (ho : isLoopO o = true) (ho' : isLoopO o' = true) (b i : Nat) : (W.putObj l o').cell? ⟨b, i, none⟩ = W.cell? ⟨b, i, none⟩ := by
  by_cases e : b = l
  · subst e
    rw [loopO_cell h ho, loopO_cell (World.putObj_heap_same (Array.getElem?_eq_some_iff.1 h).1) ho']
  · exact World.cell?_of_block (World.putObj_heap_other e)
theorem put_cells {W : World} {l : Nat} {o o' : Obj} (h : W.heap[l]? = some o) (ho : isLoopO o = true) {b : Nat} {c : Array Value} {t : TypeId} {fr : Nat × Nat} (hc : W.heap[b]? = some (.cells c t fr)) : (W.putObj l o').heap[b]? = some (.cells c t fr) := by
  have e : b ≠ l := fun e => by subst e; rw [h] at hc; cases hc; cases ho
  exact (World.putObj_heap_other e).trans hc
section
variable {P : Program} {base : Nat} {S T : St} {η η' : Names} {w W : World}
theorem goes_put (hG : Goes P base S η w T η' W) {l : Nat} {o o' : Obj} (h : W.heap[l]? = some o) (ho : isLoopO o = true) (ho' : isLoopO o' = true) (hl : w.heap.size ≤ l) (hb : base ≤ w.heap.size) : Goes P base S η w T η' (W.putObj l o') := by
  have hM := hG.mem
  have K : Keep (fun _ => True) W η' (Fix P T η') (W.putObj l o') η' (Fix P T η') := ⟨by simp, fun b i _ hx => ⟨hx, put_cell h ho ho' b i⟩, fun _ _ _ hx => hx, fun b c e hx => ⟨c, put_cells h ho hx, rfl⟩⟩
  have hB : Below base W (W.putObj l o') := ⟨rfl, rfl, rfl, by simp, fun k hk => World.putObj_heap_other (by omega)⟩
  refine ⟨⟨by simpa using hM.base_, hM.dead, hM.fresh, hM.live, hM.inj, fun k b hk => by simpa using hM.in_ k b hk, fun k t cs b h1 h2 => ?_, fun k e n b h1 h2 => ?_, hM.glob.below hB⟩, hG.keep.trans K, hG.below.trans hB, fun hm => hG.drawn hm, fun k x hk hx => ?_⟩
  · obtain ⟨vs, k1, k2, k3⟩ := hM.box k t cs b h1 h2
    exact ⟨vs, put_cells h ho k1, RepL.keep K (allL_true _) k2, k3⟩
  · obtain ⟨cur, k1, k2⟩ := hM.row k e n b h1 h2
    exact ⟨cur, put_cells h ho k1, k2⟩
  · have hk' := (Array.getElem?_eq_some_iff.1 hk).1
    exact (World.putObj_heap_other (by omega)).trans (hG.loops k x hk hx)
theorem rep_put {l : Nat} {o o' : Obj} (h : W.heap[l]? = some o) (ho : isLoopO o = true) (ho' : isLoopO o' = true) {d : D} {v : Value} (hr : Rep P W η' (Fix P T η') d v) : Rep P (W.putObj l o') η' (Fix P T η') d v :=
  Rep.keep (N := fun _ => True) ⟨by simp, fun b i _ hx => ⟨hx, put_cell h ho ho' b i⟩, fun _ _ _ hx => hx, fun b c e hx => ⟨c, put_cells h ho hx, rfl⟩⟩ (D.all_true d) hr
end

def SeqT (P : Program) (gf : FuncId) (lb : Array Value) (N : Nat) (x : Nat → Value) (K : World → Prop) : Prop :=
  ∀ (l : Nat) (J : Nat → World → Prop) (W : World), (∀ i W, J i W → K W ∧ J i W.drew) →
    (∀ i W1, i < N → J i W1 → YieldAt Fence.wide 5 P l #[x i] W1 fun e W' => e = .returned (.bool true) ∧ J (i + 1) W') → J 0 W →
    CallsIn Fence.wide 6 P gf (#[.func (.yield l) #[] #[]] ++ lb) W fun e W' => (∃ v, e = .returned v) ∧ J N W'
def DSeq (P : Program) (gf : FuncId) (caps : List D) (S : St) (N : Nat) (x : Nat → D) : Prop :=
  (∀ args w, (callFunc gf args).run P w = .ok (.enter gf args) w) ∧
  ∀ base η w lb, Mem P base S η w → RepL P w η (Fix P S η) caps lb → ∃ (K : World → Prop) (y : Nat → Value), (∀ T η' W, Goes P base S η w T η' W → K W) ∧ (∀ i, i < N → Rep P w η (Fix P S η) (x i) (y i)) ∧ SeqT P gf lb.toArray N y K

def DRange (P : Program) (g : Operand) (p : Tmp) (assign body : Code) (k : Fm → St → Prop) (f : Fm) (S : St) : Prop :=
  ∃ (gf : FuncId) (caps : List D) (N : Nat) (x : Nat → D) (I : Nat → St → Prop), ev f g = .fn (.func gf) [] caps ∧ DSeq P gf caps S N x ∧ I 0 S ∧
    (∀ i T, i < N → T.WF → I i T → dwp P (.seq assign body) (fun e _ T' => e = .normal ∧ I (i + 1) T') (put f (some p) (x i)) T) ∧ ∀ T, T.WF → I N T → k f T
def dwpR (P : Program) : Code → DQ → Fm → St → Prop
  | .rangeFunc g ps assign body, Q, f, S => match ps.toList with
    | [p] => DRange P g p assign body (Q .normal) f S
    | _ => False
  | .seq x y, Q, f, S => dwpR P x (DQ.then (fun f S => dwpR P y Q f S) Q) f S
  | .block id c, Q, f, S => dwpR P c (DQ.block id Q) f S
  | c, Q, f, S => dwp P c Q f S
def codeR (n : Nat) : Code → Bool
  | .rangeFunc g _ assign body => opnOk n g && plainC assign && plainC body && codeOk n assign && codeOk n body
  | .seq x y => codeR n x && codeR n y
  | .block _ c => codeR n c
  | c => codeOk n c
abbrev markD (D : Nat) : Deferred := { target := .collected D, args := #[] }
section
variable {P : Program} {base : Nat} {S : St} {η : Names} {w : World} {f : Fm} {a : Act}
theorem range_sound (hm : P.follows .mixedOrders = true) {g : Operand} {p : Tmp} {assign body : Code} {k : Fm → St → Prop} {Q' : Exit → Act → World → Prop} (hok : codeR a.tmps.size (.rangeFunc g #[p] assign body) = true) (hM : Mem P base S η w) (hf : RepF P w η (Fix P S η) f a) (h : DRange P g p assign body k f S)
    (hq : ∀ T η' W D, k f T → Goes P base S η w T η' W → w.heap.size ≤ D → W.heap[D]? = some (.deferred (some [])) → Q' .normal { a with defers := markD D :: a.defers } W) : (Code.rangeFunc g #[p] assign body).wp P Q' a w := by
  obtain ⟨gf, caps, N, x, I, hg, ⟨eg, hseq⟩, h0, hr, hk⟩ := h
  simp only [codeR, Bool.and_eq_true] at hok
  obtain ⟨⟨⟨⟨hok1, hok2⟩, hok3⟩, hok4⟩, hok5⟩ := hok
  have hev := hf.ev hok1
  rw [hg] at hev
  simp only [Rep, RepL] at hev
  obtain ⟨us, lb, hev, rfl, hcaps⟩ := hev
  obtain ⟨K, y, hK, hy, hS⟩ := hseq base η w lb hM hcaps
  refine (wpIn_wide (n := 7)).1 (wpIn_rangeFunc ?_)
  intro fn hfn
  obtain ⟨rec, hrec⟩ : ∃ rec : LoopState → Option Code → Loop, rec = fun st pe => { state := st, pending := pe, fn, tmps := a.tmps, params := #[p], assign, body, defers := w.heap.size } := ⟨_, rfl⟩
  obtain ⟨W1, hW1⟩ : ∃ W1, (w.alloc (.deferred (some []))).alloc (.loop (rec .ready none)) = W1 := ⟨_, rfl⟩
  have hL1 : W1.heap[w.heap.size + 1]? = some (.loop (rec .ready none)) := by
    rw [← hW1]; have := World.alloc_heap_new (w.alloc (.deferred (some []))) (.loop (rec .ready none)); rwa [World.size_alloc] at this
  have hK1 : W1.heap[w.heap.size]? = some (.deferred (some [])) := by
    rw [← hW1]; exact (Below.heap_alloc _ _ _ (by simp)).trans (World.alloc_heap_new w _)
  have G1 : Goes P base S η w S η W1 := by
    have g1 := goes_new hM (.deferred (some []))
    rw [← hW1]; exact g1.trans (goes_new g1.mem _)
  refine ⟨w.heap.size + 1, [{ target := .collected w.heap.size, args := #[] }], W1, { target := .fn (.func gf) lb.toArray, args := #[.func (.yield (w.heap.size + 1)) #[] #[]] }, W1, gf,
    #[.func (.yield (w.heap.size + 1)) #[] #[]] ++ lb.toArray, W1, ?_, ?_, fun _ _ => trivial, ?_, (fun e => by cases e), ?_⟩
  · rw [← hW1, hrec]; exact run_enterLoop_outer _ _ _ _ _
  · simp only [resolve, hev]
    simp [go_sem]
  · simp [invoke, go_sem, eg]
  · let J : Nat → World → Prop := fun i W => ∃ T η', I i T ∧ Goes P base S η w T η' W ∧ W.heap[w.heap.size + 1]? = some (.loop (rec .ready none)) ∧ W.heap[w.heap.size]? = some (.deferred (some []))
    refine (hS (w.heap.size + 1) J W1 (fun i W ⟨T, η', h1, h2, h3, h4⟩ => ⟨hK T η' W h2, T, η', h1, h2.trans (goes_drew h2.mem), h3, h4⟩) ?_ ⟨S, η, h0, G1, hL1, hK1⟩).mono ?_
    · rintro i W hi ⟨T, η', hI, hG, hl, hkk⟩
      have hyr := run_yield (P := P) (args := #[y i]) hl (by rw [hrec]; rfl)
      rw [hrec] at hyr
      refine ⟨fn, _, assign, body, hyr, ?_⟩
      refine roundIn_of_wpIn hfn ?_
      have hbody := hr i T hi hG.mem.fresh hI
      have hF : RepF P W η' (Fix P T η') (put f (some p) (x i)) (a.put (some p) (y i)) := (hG.repF hf).put (hG.rep (hy i hi)) (some p)
      have hsz : (a.put (some p) (y i)).tmps.size = a.tmps.size := by rw [size_put]
      have key : assign.wpIn (Fence.wide.inRound (w.heap.size + 1)) 5 P (Exit.then (fun a₁ w₁ => ∃ w₂, (Instr.beginRound (w.heap.size + 1)).run P w₁ = .ok () w₂ ∧ body.wpIn (Fence.wide.inRound (w.heap.size + 1)) 5 P (roundPost P (w.heap.size + 1) (fun e W' => e = .returned (.bool true) ∧ J (i + 1) W')) a₁ w₂) (fun _ _ _ => False)) { tmps := (a.put (some p) (y i)).tmps, defers := [] } W := by
        refine dwpN_sound hm assign (Q := DQ.then (fun f S => dwp P body (fun e _ T' => e = .normal ∧ I (i + 1) T') f S) (fun e _ T' => e = .normal ∧ I (i + 1) T')) hok2 (by show codeOk (a.put (some p) (y i)).tmps.size assign = true; rw [hsz]; exact hok4) hG.mem (fun t ht' => hF t ht') hbody (fun ⟨_, _, h⟩ => h) fun e f' S' η1 w1 a' k1 k2 k3 k4 k5 => ?_
        cases e with
        | exit _ => cases k1.1
        | ret => cases k1.1
        | normal =>
          have hl1 := k2.loops _ _ hl rfl
          have hk1 := k2.loops _ _ hkk rfl
          refine ⟨_, run_beginRound hl1 (by rw [hrec]), ?_⟩
          have G2 := hG.trans k2
          have G3 := goes_put G2 (o' := .loop { rec .ready none with state := .busy }) hl1 rfl rfl (by omega) hM.base_
          have hl2 : (w1.putObj (w.heap.size + 1) (.loop { rec .ready none with state := .busy })).heap[w.heap.size + 1]? = some (.loop { rec .ready none with state := .busy }) := World.putObj_heap_same (Array.getElem?_eq_some_iff.1 hl1).1
          have hk2 : (w1.putObj (w.heap.size + 1) (.loop { rec .ready none with state := .busy })).heap[w.heap.size]? = some (.deferred (some [])) := (World.putObj_heap_other (by omega)).trans hk1
          have k4' : a'.tmps.size = a.tmps.size := k4.trans hsz
          refine dwpN_sound hm body (Q := fun e _ T' => e = .normal ∧ I (i + 1) T') hok3 (by rw [k4']; exact hok5) G3.mem (fun t ht' => rep_put hl1 rfl rfl (k3 t ht')) k1 (fun ⟨_, _, h⟩ => h) fun e f'' S'' η2 w2 a'' j1 j2 j3 j4 j5 => ?_
          obtain ⟨rfl, j1⟩ := j1
          have hl3 := j2.loops _ _ hl2 rfl
          have hk3 := j2.loops _ _ hk2 rfl
          refine ⟨_, _, run_endRound none hl3, rfl, S'', η2, j1, ?_, ?_, ?_⟩
          · exact goes_put (G3.trans j2) hl3 rfl rfl (by omega) hM.base_
          · have := World.putObj_heap_same (o := .loop { { rec .ready none with state := .busy } with state := if (none : Option Code).isNone then .ready else .done, pending := none }) (Array.getElem?_eq_some_iff.1 hl3).1
            rw [hrec] at this ⊢
            exact this
          · exact (World.putObj_heap_other (by omega)).trans hk3
      exact cast (congrArg (fun t => assign.wpIn (Fence.wide.inRound (w.heap.size + 1)) 5 P (Exit.then (fun a₁ w₁ => ∃ w₂, (Instr.beginRound (w.heap.size + 1)).run P w₁ = .ok () w₂ ∧ body.wpIn (Fence.wide.inRound (w.heap.size + 1)) 5 P (roundPost P (w.heap.size + 1) (fun e W' => e = .returned (.bool true) ∧ J (i + 1) W')) a₁ w₂) (fun _ _ _ => False)) { tmps := t, defers := [] } W) (by simp [Act.put])) key
    · rintro e W2 ⟨⟨v, rfl⟩, T, η', hI, hG, hl, hkk⟩
      refine ⟨none, _, ?_, hq T η' _ w.heap.size (hk T hG.mem.fresh hI) (goes_put (o' := .loop { rec .ready none with state := .exhausted }) hG hl rfl rfl (by omega) hM.base_) (Nat.le_refl _) ((World.putObj_heap_other (by omega)).trans hkk)⟩
      have := run_endLoop (P := P) hl (by rw [hrec]; simp)
      rw [hrec] at this ⊢
      exact this
theorem dwpR_sound (hm : P.follows .mixedOrders = true) : ∀ (c : Code) {Q : DQ} {S : St} {η : Names} {w : World} {f : Fm} {a : Act} {Q' : Exit → Act → World → Prop}, codeR a.tmps.size c = true → Mem P base S η w → RepF P w η (Fix P S η) f a → dwpR P c Q f S →
    (∀ e f' S' η' w' a' (ds : List Nat), Q e f' S' → Goes P base S η w S' η' w' → RepF P w' η' (Fix P S' η') f' a' → a'.tmps.size = a.tmps.size → a'.defers = ds.map markD ++ a.defers → ds.Nodup → (∀ D ∈ ds, w.heap.size ≤ D ∧ w'.heap[D]? = some (.deferred (some []))) → Q' e.up a' w') → c.wp P Q' a w := by
  have plain : ∀ (c : Code) {Q : DQ} {S : St} {η : Names} {w : World} {f : Fm} {a : Act} {Q' : Exit → Act → World → Prop}, codeOk a.tmps.size c = true → Mem P base S η w → RepF P w η (Fix P S η) f a → dwp P c Q f S →
      (∀ e f' S' η' w' a' (ds : List Nat), Q e f' S' → Goes P base S η w S' η' w' → RepF P w' η' (Fix P S' η') f' a' → a'.tmps.size = a.tmps.size → a'.defers = ds.map markD ++ a.defers → ds.Nodup → (∀ D ∈ ds, w.heap.size ≤ D ∧ w'.heap[D]? = some (.deferred (some []))) → Q' e.up a' w') → c.wp P Q' a w :=
    fun c {Q S η w f a Q'} hok hM hf h hq => dwp_sound hm c hok hM hf h fun e f' S' η' w' a' k1 k2 k3 k4 k5 => hq e f' S' η' w' a' [] k1 k2 k3 k4 (by rw [k5]; rfl) List.nodup_nil (fun _ h => by cases h)
  intro c
  induction c with
  | skip => intro Q S η w f a Q' hok hM hf h hq; exact plain _ hok hM hf h hq
  | label l => intro Q S η w f a Q' hok hM hf h hq; exact plain _ hok hM hf h hq
  | exit id => intro Q S η w f a Q' hok hM hf h hq; exact plain _ hok hM hf h hq
  | region id ops draw => intro Q S η w f a Q' hok hM hf h hq; exact plain _ hok hM hf h hq
  | cond g x y _ _ => intro Q S η w f a Q' hok hM hf h hq; exact plain _ hok hM hf h hq
  | loop c _ => intro Q S η w f a Q' hok hM hf h hq; exact plain _ hok hM hf h hq
  | ret => intro Q S η w f a Q' hok hM hf h hq; exact plain _ hok hM hf h hq
  | scope c _ => intro Q S η w f a Q' hok hM hf h hq; exact plain _ hok hM hf h hq
  | goto l => intro Q S η w f a Q' hok hM hf h hq; exact plain _ hok hM hf h hq
  | refuse s => intro Q S η w f a Q' hok hM hf h hq; exact plain _ hok hM hf h hq
  | rangeFunc g ps x y _ _ =>
    intro Q S η w f a Q' hok hM hf h hq
    obtain ⟨pl⟩ := ps
    match pl, h with
    | [p], h =>
      refine range_sound hm hok hM hf h fun T η' W D k1 k2 k3 k4 => ?_
      exact hq .normal f T η' W _ [D] k1 k2 (k2.repF hf) rfl rfl (List.nodup_cons.2 ⟨by simp, List.nodup_nil⟩) (fun D' hD => by obtain rfl := List.mem_singleton.1 hD; exact ⟨k3, k4⟩)
  | seq x y ihx ihy =>
    intro Q S η w f a Q' hok hM hf h hq
    simp only [codeR, Bool.and_eq_true] at hok
    refine wp_seq (ihx hok.1 hM hf h fun e f' S' η' w' a' ds k1 k2 k3 k4 k5 k6 k7 => ?_)
    cases e with
    | normal =>
      refine ihy (by rw [k4]; exact hok.2) k2.mem k3 k1 fun e f'' S'' η'' w'' a'' ds2 g1 g2 g3 g4 g5 g6 g7 => hq e f'' S'' η'' w'' a'' (ds2 ++ ds) g1 (k2.trans g2) g3 (by rw [g4, k4]) (by rw [g5, k5, List.map_append, List.append_assoc]) ?_ fun D hD => ?_
      · refine List.nodup_append.2 ⟨g6, k6, fun D1 h1 D2 h2 e => ?_⟩
        have a1 := (g7 D1 h1).1
        have a2 := (Array.getElem?_eq_some_iff.1 (k7 D2 h2).2).1
        omega
      · rcases List.mem_append.1 hD with h1 | h1
        · exact ⟨Nat.le_trans k2.keep.size (g7 D h1).1, (g7 D h1).2⟩
        · exact ⟨(k7 D h1).1, g2.loops _ _ (k7 D h1).2 rfl⟩
    | exit i => exact hq (.exit i) f' S' η' w' a' ds k1 k2 k3 k4 k5 k6 k7
    | ret => exact hq .ret f' S' η' w' a' ds k1 k2 k3 k4 k5 k6 k7
  | block id c ih =>
    intro Q S η w f a Q' hok hM hf h hq
    refine wp_block (ih hok hM hf h fun e f' S' η' w' a' ds k1 k2 k3 k4 k5 k6 k7 => ?_)
    cases e with
    | normal => exact hq .normal f' S' η' w' a' ds k1 k2 k3 k4 k5 k6 k7
    | ret => exact hq .ret f' S' η' w' a' ds k1 k2 k3 k4 k5 k6 k7
    | exit i =>
      simp only [DQ.block] at k1
      simp only [DX.up, Exit.inBlock]
      cases hb : Nat.beq i id with
      | true =>
        rw [if_pos (Nat.eq_of_beq_eq_true hb)]
        rw [hb] at k1
        exact hq .normal f' S' η' w' a' ds k1 k2 k3 k4 k5 k6 k7
      | false =>
        rw [if_neg (by intro e; rw [e, Nat.beq_refl] at hb; cases hb)]
        rw [hb] at k1
        exact hq (.exit i) f' S' η' w' a' ds k1 k2 k3 k4 k5 k6 k7
end
theorem leaves_marks {P : Program} {fn : Func} {tmps : Array Value} {R : Ending → World → Prop} : ∀ (ds : List Nat) (w : World), ds.Nodup → (∀ D ∈ ds, w.heap[D]? = some (.deferred (some []))) → (∀ W : World, (∃ X : List Nat, (∀ D ∈ X, D ∈ ds) ∧ W = X.foldl (fun w D => w.putObj D (.deferred none)) w ∧ X = ds) → ∃ v, (results fn tmps).run P W = .ok v W ∧ R (.returned v) W) →
    LeavesInM Fence.wide 0 P fn tmps R (ds.map markD) .returning w
  | [], w, _, _, h => h w ⟨[], fun _ h => h, rfl, rfl⟩
  | D :: ds, w, hn, hd, h => by
    obtain ⟨hn1, hn2⟩ := List.nodup_cons.1 hn
    refine ⟨by simp, .inl ⟨D, w.putObj D (.deferred none), rfl, run_takeDeferred (hd D (List.mem_cons_self ..)), ?_⟩⟩
    refine leaves_marks ds _ hn2 (fun D' hD => (World.putObj_heap_other (fun e => hn1 (by rw [← e]; exact hD))).trans (hd D' (List.mem_cons_of_mem _ hD))) fun W ⟨X, _, h2, h3⟩ => ?_
    subst h3
    exact h W ⟨D :: X, fun _ h => h, h2, rfl⟩
theorem goes_puts {P : Program} {base : Nat} {S T : St} {η η' : Names} {w : World} (hb : base ≤ w.heap.size) : ∀ (ds : List Nat) (W : World), Goes P base S η w T η' W → ds.Nodup → (∀ D ∈ ds, w.heap.size ≤ D ∧ W.heap[D]? = some (.deferred (some []))) → Goes P base S η w T η' (ds.foldl (fun w D => w.putObj D (.deferred none)) W) ∧ ∀ d v, Rep P W η' (Fix P T η') d v → Rep P (ds.foldl (fun w D => w.putObj D (.deferred none)) W) η' (Fix P T η') d v
  | [], W, hG, _, _ => ⟨hG, fun _ _ h => h⟩
  | D :: ds, W, hG, hn, hd => by
    obtain ⟨hn1, hn2⟩ := List.nodup_cons.1 hn
    obtain ⟨h1, h2⟩ := hd D (List.mem_cons_self ..)
    have G := goes_put (o' := .deferred none) hG h2 rfl rfl h1 hb
    obtain ⟨k1, k2⟩ := goes_puts hb ds _ G hn2 fun D' hD => ⟨(hd D' (List.mem_cons_of_mem _ hD)).1, (World.putObj_heap_other (fun e => hn1 (by rw [← e]; exact hD))).trans (hd D' (List.mem_cons_of_mem _ hD)).2⟩
    exact ⟨k1, fun d v hr => k2 d v (rep_put h2 rfl rfl hr)⟩
theorem dcalls_range {P : Program} (hm : P.follows .mixedOrders = true) {g : FuncId} {fn : Func} {c : Code} (hf : P.funcs[g]? = some fn) (hb : fn.body = some c) (hent : ∀ vs w, (callFunc g vs).run P w = .ok (.enter g vs) w) {rs : List ResultVar} (hrs : fn.results.toList = rs) {args : List D} (hok : (codeR fn.ntmps c && fn.results.all (resOk fn.ntmps) && Nat.ble args.length fn.ntmps) = true) {S : St} {K : D → St → Prop}
    (h : S.WF → dwpR P c (DQ.inl P rs K) (argF args) S) : DCalls P g args S K := by
  subst hrs
  intro base η w vs hM hr
  refine .inl ⟨hent _ _, ?_⟩
  simp only [Bool.and_eq_true] at hok
  obtain ⟨⟨hok1, hok2⟩, hok3⟩ := hok
  have hlen : args.length ≤ fn.ntmps := Nat.le_of_ble_eq_true hok3
  have hl := hr.length
  have hsz : (vs.toArray ++ Array.replicate (fn.ntmps - vs.toArray.size) undef).size = fn.ntmps := by simp; omega
  refine (callsIn_wide (n := 0)).1 (callsIn_of_wp_marks hf hb trivial ((wpIn_wide (n := 0)).2 ?_))
  refine dwpR_sound hm c (a := { tmps := vs.toArray ++ Array.replicate (fn.ntmps - vs.toArray.size) undef, defers := [] }) (by rw [hsz]; exact hok1) hM (fun t ht => ?_) (h hM.fresh) fun e f' S' η' w' a' ds k1 k2 k3 k4 k5 k6 k7 => ?_
  · rw [hsz] at ht
    simp only [argF]
    by_cases h1 : t < vs.length
    · obtain ⟨x, hx, hr'⟩ := hr.get t (List.getElem?_eq_getElem (by omega : t < args.length))
      have e1 : args.getD t undefD = args[t] := by rw [List.getD_eq_getElem?_getD, List.getElem?_eq_getElem (by omega : t < args.length)]; rfl
      have e2 : (vs.toArray ++ Array.replicate (fn.ntmps - vs.toArray.size) undef).getD t undef = x := by
        rw [Array.getD_eq_getD_getElem?, Array.getElem?_append_left (by simpa using h1)]
        simp [hx]
      rw [e1, e2]
      exact hr'
    · have e1 : args.getD t undefD = undefD := by rw [List.getD_eq_getElem?_getD, List.getElem?_eq_none (by omega)]; rfl
      have e2 : (vs.toArray ++ Array.replicate (fn.ntmps - vs.toArray.size) undef).getD t undef = undef := by
        rw [Array.getD_eq_getD_getElem?, Array.getElem?_append_right (by simpa using h1)]
        rw [Array.getElem?_replicate]
        split <;> rfl
      rw [e1, e2]
      simp only [Rep, RepL]
      exact ⟨[], rfl, rfl⟩
  · have hsz' : a'.tmps.size = fn.ntmps := by rw [k4]; exact hsz
    have hd' : a'.defers = ds.map markD := by rw [k5]; simp
    have fin : dresL P f' S' fn.results.toList (fun ds => K (one ds) S') → LeavesInM Fence.wide 0 P fn a'.tmps (fun e w' => ∃ d S' η' v, K d S' ∧ e = .returned v ∧ Rep P w' η' (Fix P S' η') d v ∧ Goes P base S η w S' η' w') a'.defers .returning w' := fun hres => by
      rw [hd']
      refine leaves_marks ds w' k6 (fun D hD => (k7 D hD).2) fun W ⟨X, _, hW, hX⟩ => ?_
      subst hX
      obtain ⟨g1, g2⟩ := goes_puts hM.base_ X w' k2 k6 k7
      rw [← hW] at g1 g2
      obtain ⟨ds', v, q1, q7, q8⟩ := results_sound (S := S') (η := η') (w := W) (f := f') g1.mem (fun t ht => g2 _ _ (k3 t ht)) (by rw [hsz']; exact hok2) hres
      exact ⟨v, q8, one ds', S', η', v, q1, rfl, q7, g1⟩
    cases e with
    | normal => exact fin k1
    | ret => exact fin k1
    | exit i => exact k1.elim
end Go.Proofs.Ytonncfminojejaa

namespace Go.Proofs.Ytonncfminojejaa
open Go.RowKit
set_option maxRecDepth 100000
attribute [local go_sem] Oper.semAt_some
theorem rd_loc {P : Program} {base : Nat} {S S' : St} {η : Names} {w : World} {k b : Nat} {t : TypeId} {cs : List D} (hM : Mem P base S η w) (hk : S.ob k = some (.box t cs)) (hb : η k = some (some b)) (hs : ∀ j o, S'.ob j = some o → S.ob j = some o) (hk' : S'.ob k = none) : RepC P w η (Fix P S' η) cs b 0 := by
  obtain ⟨vs, h1, h2, h3⟩ := hM.box k t cs b hk hb
  have K : Keep (fun _ => True) w η (Fix P S η) w η (Fix P S' η) := ⟨Nat.le_refl _, fun b i _ hx => ⟨fun k' o hk' ho => hx k' o hk' (hs k' o ho), rfl⟩, fun _ _ _ h => h, fun _ c _ h => ⟨c, h, rfl⟩⟩
  refine RepC.mk (RepL.keep K (allL_true _) h2) (fun j v hj => ?_) (fun j _ k2 o hk2 ho => ?_) h3
  · simp [World.cell?, h1, hj]
  · have e := hM.inj k2 k b hk2 hb (by rw [hs k2 o ho]; rfl) (by rw [hk]; rfl)
    subst e
    rw [hk'] at ho
    cases ho
theorem thaw_fn_rd2 {P : Program} {S : St} {k j : Nat} {f : Fn} {t0 t1 : TypeId} {c0 c1 : List D} (h0 : S.ob k = some (.box t0 c0)) (h1 : S.ob j = some (.box t1 c1)) (hkj : k ≠ j) : Thaw P S (.fn f [] [.loc k 0, .loc j 0]) ((S.drop k).drop j) (.fn f [] [.rd c0 0, .rd c1 0]) := by
  intro base η w v hM hr
  have G1 := goes_drop hM k
  have G2 := goes_drop G1.mem j
  have hs : ∀ i o, ((S.drop k).drop j).ob i = some o → S.ob i = some o := fun i o hi => by
    simp only [St.drop] at hi
    split at hi
    · cases hi
    · split at hi
      · cases hi
      · exact hi
  refine ⟨η, G1.trans G2, ?_⟩
  simp only [Rep, RepL] at hr ⊢
  obtain ⟨us, vs, rfl, rfl, _, _, rfl, ⟨b0, e0, rfl⟩, _, _, rfl, ⟨b1, e1, rfl⟩, rfl⟩ := hr
  refine ⟨_, _, rfl, rfl, _, _, rfl, ⟨b0, 0, rfl, ?_⟩, _, _, rfl, ⟨b1, 0, rfl, ?_⟩, rfl⟩
  · exact rd_loc hM h0 e0 hs (by simp [St.drop, hkj])
  · exact rd_loc hM h1 e1 hs (by simp [St.drop])
set_option maxRecDepth 100000 in
set_option maxHeartbeats 1000000 in
theorem chunk1H_in (l b1 o1 b2 o2 n c : Nat) (A : Option Addr) (y : Nat → Value) (J : Nat → World → Prop) (hn : n ≤ c) (hn2 : n ≤ 140737488355328)
    (hy : ∀ i, 8 * i < n → y i = .slice ((A.map fun a => a.add (8 * i * 32))) (min 8 (n - 8 * i)) (min 8 (n - 8 * i)))
    (hJ : ∀ i W, J i W → (W.cell? ⟨b1, o1, none⟩ = some (.slice A n c) ∧ W.cell? ⟨b2, o2, none⟩ = some (.int .i64 8)) ∧ J i W.drew)
    (hY : ∀ i W1, i < (n + 7) / 8 → J i W1 → YieldAt Fence.wide 5 Try.prog l #[y i] W1 fun e W' => e = .returned (.bool true) ∧ J (i + 1) W') (W : World) (h0 : J 0 W) :
    CallsIn Fence.wide 6 Try.prog 47 #[.func (.yield l) #[] #[], .pointer (some ⟨b1, o1, none⟩), .pointer (some ⟨b2, o2, none⟩)] W fun e W' => (∃ v, e = .returned v) ∧ J ((n + 7) / 8) W' := by
  refine callsIn_of_wp Try.func47 rfl trivial ?_ rfl
  simp only [Try.ntmps47, List.size_toArray, List.length_cons, List.length_nil, Nat.reduceAdd, Nat.reduceSub, Array.replicate_succ, Array.replicate_zero, List.push_toArray, List.append_toArray, List.nil_append, List.cons_append]
  gi_wp2
  gi_loopw [4, 5] (fun i _ wr => ∃ k : Nat, i = .int .i64 ((8 * k : Nat) : Int) ∧ k ≤ (n + 7) / 8 ∧ J k wr) (fun i _ _ => n + 8 - (intOf i).toNat)
  case atStart => exact ⟨0, rfl, Nat.zero_le _, h0⟩
  case round =>
    obtain ⟨k, rfl, hk, hj⟩ := hrel
    obtain ⟨⟨hc1, hc2⟩, hjd⟩ := hJ k _ hj
    by_cases hlt : 8 * k < n
    · have hd1 : decide (((8 * k : Nat) : Int) < (n : Int)) = true := decide_eq_true (by omega)
      have hd2 : decide ((8 : Int) * (k : Int) < (n : Int)) = true := decide_eq_true (by omega)
      gi_wp2_with fail
      gi_region
      obtain ⟨m, hm, hm8⟩ : ∃ m : Nat, (if (((n - 8 * k : Nat) : Int)) < 8 then ((n - 8 * k : Nat) : Int) else 8) = (m : Int) ∧ m = min 8 (n - 8 * k) := ⟨min 8 (n - 8 * k), by split <;> omega, rfl⟩
      have hm' : min (8 : Int) ((n - 8 * k : Nat) : Int) = (m : Int) := by rw [hm8]; omega
      first | rw [hm] | rw [hm']
      have wd1 : wr.drew.cell? ⟨b1, o1, none⟩ = some (.slice A n c) := hc1
      have wd2 : wr.drew.cell? ⟨b2, o2, none⟩ = some (.int .i64 8) := hc2
      obtain ⟨fn, tmps, assign, body, hyr, hR⟩ := hY k wr.drew (by omega) hjd
      rw [hy k hlt] at hyr
      obtain ⟨we, hwe⟩ : ∃ we, we = wr.drew := ⟨_, rfl⟩
      rw [← hwe] at wd1 wd2 hyr hR ⊢
      clear hwe hc1 hc2 hj hjd
      have w1 : IntKind.i64.wrap (((8 * k : Nat) : Int) + (m : Int)) = ((8 * k : Nat) : Int) + (m : Int) := IntWalk.i64_in _ ⟨by omega, by omega⟩
      have w2 : IntKind.i64.wrap (((8 * k : Nat) : Int) + 8) = ((8 * k : Nat) : Int) + 8 := IntWalk.i64_in _ ⟨by omega, by omega⟩
      have i1 : (0 : Int) ≤ ((8 * k : Nat) : Int) := by omega
      have i2 : ((8 * k : Nat) : Int) ≤ ((8 * k : Nat) : Int) + (m : Int) := by omega
      have i3 : ((8 * k : Nat) : Int) + (m : Int) ≤ (c : Int) := by omega
      gi_wp2_with fail
      refine hR.mono ?_
      rintro e W3 ⟨rfl, hJ3⟩
      obtain ⟨⟨hc1, hc2⟩, _⟩ := hJ _ _ hJ3
      gi_wp2_with fail
      go_roundw
      case rel => exact ⟨k + 1, by go_num, by omega, hJ3⟩
      case measure => simp [intOf]; omega
    · have hd1 : decide (((8 * k : Nat) : Int) < (n : Int)) = false := decide_eq_false (by omega)
      have hd2 : decide ((8 : Int) * (k : Int) < (n : Int)) = false := decide_eq_false (by omega)
      obtain rfl : k = (n + 7) / 8 := by omega
      gi_wp2_with fail
      go_end0
      exact ⟨⟨_, rfl⟩, hj⟩
theorem chunkH_seq {S : St} (own : Own) (es : List D) (hw : ∀ d ∈ es, d.width = 32) : DSeq Try.prog 47 [.rd [.sl own es] 0, .rd [.v (.int .i64 8)] 0] S ((es.length + 7) / 8) (fun i => .sl .no ((es.drop (8 * i)).take 8)) := by
  refine ⟨fun _ _ => by kernel_rfl, fun base η w lb hM hr => ?_⟩
  simp only [RepL, Rep, RepC, and_true] at hr
  obtain ⟨_, _, rfl, ⟨b1, o1, rfl, h1, u1, h2, h3, A, c, rfl, hnc, hn, _, hA⟩, _, _, rfl, ⟨b2, o2, rfl, k1, u2, k2, k3, rfl⟩, rfl⟩ := hr
  refine ⟨fun W => W.cell? ⟨b1, o1 + 0, none⟩ = some (.slice A es.length c) ∧ W.cell? ⟨b2, o2 + 0, none⟩ = some (.int .i64 8), fun i => .slice (A.map fun a => a.add (8 * i * 32)) (min 8 (es.length - 8 * i)) (min 8 (es.length - 8 * i)), fun T η' W G => ⟨(G.keep.cell h1 h2).2, (G.keep.cell k1 k2).2⟩, fun i hi => ?_, fun l J W hJ hY h0 => ?_⟩
  · simp only [Rep]
    refine ⟨_, _, by rw [List.length_take, List.length_drop], by rw [List.length_take, List.length_drop]; omega, by rw [List.length_take]; omega, trivial, fun h0 => ?_⟩
    obtain ⟨b, o, z, hAe, hz, hE⟩ := hA (by omega)
    have hzz : z = 32 := by
      have h0' : 0 < es.length := by omega
      have := (RepE.get 0 hE (List.getElem?_eq_getElem h0')).cells.1
      rw [← this]; exact hw _ (List.getElem_mem h0')
    subst hzz
    refine ⟨b, o + 8 * i * 32, 32, ?_, hz, RepE.mk fun j d hd => ?_⟩
    · rw [hAe]
      simp only [Option.map_some, Addr.add]
      split
      · rename_i e; rw [e]; rfl
      · rfl
    · rw [List.getElem?_take] at hd
      split at hd
      · rw [List.getElem?_drop] at hd
        have := RepE.get (8 * i + j) hE hd
        rwa [show o + (8 * i + j) * 32 = o + 8 * i * 32 + j * 32 by omega] at this
      · cases hd
  · exact chunk1H_in l b1 _ b2 _ es.length c A _ J hnc hn (fun i _ => rfl) hJ hY W h0
theorem chunkH_d {S : St} (own : Own) (es : List D) : DCalls Try.prog 30 [.sl own es, .v (.int .i64 8)] S fun d T => d = .fn (.func 47) [] [.rd [.sl own es] 0, .rd [.v (.int .i64 8)] 0] ∧ S.Sub T := by
  refine DCalls.thaw ?_
  refine dcalls_inline mixed Try.func30 rfl (fun _ _ => by kernel_rfl) (rs := [.tmp 4]) rfl (by kernel_rfl) (fun hS => ?_)
  have b1 : decide ((8 : Int) < 1) = false := by decide
  (simp (disch := first | decide | omega | (simp only [nx]; first | done | omega)) only [go_sem, b1]; (repeat with_reducible refine aI ?_))
  refine ⟨_, _, thaw_fn_rd2 (k := S.next) (j := S.next + 1) (by (first | (simp (disch := first | decide | omega | (simp only [nx]; first | done | omega)) only [go_sem]; first | done | rfl) | rfl)) (by (first | (simp (disch := first | decide | omega | (simp only [nx]; first | done | omega)) only [go_sem]; first | done | rfl) | rfl)) (by omega), rfl, ?_⟩
  exact ((((St.Sub.refl S).add hS _).add hS _).drop hS (Nat.le_refl _)).drop hS (Nat.le_succ _)

end Go.Proofs.Ytonncfminojejaa

namespace Go.Proofs.Ytonncfminojejaa
open Go.RowKit
theorem dcalls_argfrz {P : Program} {g : FuncId} {args : List D} {S : St} {K : D → St → Prop} (h : DCalls P g (frzL args) S K) : DCalls P g args S K := fun base η w vs hM hr => h base η w vs hM hr.frz
theorem dpure_frz {P : Program} {g : FuncId} {args : List D} {r : D} (hc : r.closed) (h : ∀ S : St, S.WF → DCalls P g args S fun d T => d.frz = r ∧ S.Sub T) : DPure P g args r := fun S base η w vs hM hr =>
  calls_fin ((h S hM.fresh).mono fun d T ⟨e, hs⟩ => DFin.t ⟨r, S, e ▸ DLe.frz d, D.all_mono (fun _ h => h.elim) hc, hs.next, Nat.le_refl _, fun k o hk => ⟨hs.ob k o hk, St.WF.lt (S := S) hM.fresh hk, fun _ _ _ => .inl hk⟩, rfl, rfl⟩) base η w vs hM hr
section
variable {P : Program} {f : Fm} {S : St} {Q : DQ}
theorem dwpR_seq (x y : Code) : dwpR P (.seq x y) Q f S = dwpR P x (DQ.then (dwpR P y Q) Q) f S := Eq.trans (Eq.refl _) (Eq.refl _)
theorem dwpR_block (id : Nat) (c : Code) : dwpR P (.block id c) Q f S = dwpR P c (DQ.block id Q) f S := Eq.trans (Eq.refl _) (Eq.refl _)
theorem dwpR_region (id : Nat) (ops : Array Oper) (d : Bool) : dwpR P (.region id ops d) Q f S = dwp P (.region id ops d) Q f S := Eq.trans (Eq.refl _) (Eq.refl _)
theorem dwpR_cond (g : Operand) (x y : Code) : dwpR P (.cond g x y) Q f S = dwp P (.cond g x y) Q f S := Eq.trans (Eq.refl _) (Eq.refl _)
theorem dwpR_loop (c : Code) : dwpR P (.loop c) Q f S = dwp P (.loop c) Q f S := Eq.trans (Eq.refl _) (Eq.refl _)
theorem dwpR_ret : dwpR P .ret Q f S = Q .ret f S := Eq.trans (Eq.refl _) (Eq.refl _)
theorem dwpR_skip : dwpR P .skip Q f S = Q .normal f S := Eq.trans (Eq.refl _) (Eq.refl _)
attribute [go_sem] dwpR_seq dwpR_block dwpR_region dwpR_cond dwpR_loop dwpR_ret dwpR_skip
theorem drange_mk {g : Operand} {p : Tmp} {assign body : Code} {gf : FuncId} {caps : List D} (N : Nat) (x : Nat → D) (I : Nat → St → Prop) (hg : ev f g = .fn (.func gf) [] caps) (hs : DSeq P gf caps S N x) (h0 : I 0 S)
    (hr : ∀ i T, i < N → T.WF → I i T → dwp P (.seq assign body) (fun e _ T' => e = .normal ∧ I (i + 1) T') (put f (some p) (x i)) T) (hk : ∀ T, T.WF → I N T → Q .normal f T) : dwpR P (.rangeFunc g #[p] assign body) Q f S := ⟨gf, caps, N, x, I, hg, hs, h0, hr, hk⟩
end
def chunk8 {α : Type} (l : List α) (i : Nat) : List α := (l.drop (8 * i)).take 8
def chunks8 {α : Type} (l : List α) : List (List α) := (List.range ((l.length + 7) / 8)).map (chunk8 l)
def wantM (l : List H32) : DMs := ⟨2, false, zF, l, []⟩
def wantsM (l : List H32) : List DMs := (chunks8 (sortH l)).map wantM
theorem chunk8_pos {α : Type} {l : List α} {i : Nat} (h : i < (l.length + 7) / 8) : 0 < (chunk8 l i).length ∧ (chunk8 l i).length ≤ 8 := by
  rw [chunk8, List.length_take, List.length_drop]; omega
theorem chunk8_map {α β : Type} (f : α → β) (l : List α) (i : Nat) : ((l.map f).drop (8 * i)).take 8 = (chunk8 l i).map f := by
  rw [chunk8, List.map_take, List.map_drop]
def encW (l : List H32) : D := .agg (.v (.int .i64 2) :: .v (.bool false) :: (zF.1.map bD ++ [.sl .no (l.map encH), .sl .full []]))
theorem frz_agg (l : List D) : (D.agg l).frz = .agg (frzL l) := by simp only [D.frz]
theorem frzL_append (a b : List D) : frzL (a ++ b) = frzL a ++ frzL b := by rw [frzL_map, frzL_map, frzL_map, List.map_append]
theorem frz_encW (l : List H32) : (encW l).frz = encMs (wantM l) := by
  simp only [encW, encMs, msCs, msT, wantM, frz_agg, frzL, D.frz, frzL_append, frz_bB, frz_Hs, List.map_nil]
theorem closed_Es (l : List (List UInt8)) : (D.sl .no (l.map encB)).closed := by
  simp only [D.closed, D.all, Own.all, true_and]
  refine allL_iff.2 fun d hd => ?_
  obtain ⟨b, _, rfl⟩ := List.mem_map.1 hd
  exact closed_bB b
theorem closed_encMs (m : DMs) : (encMs m).closed := by
  simp only [D.closed, encMs, msCs, D.all, allL, true_and]
  refine allL_iff.2 fun d hd => ?_
  rcases List.mem_append.1 hd with h | h
  · obtain ⟨b, _, rfl⟩ := List.mem_map.1 h; simp [bD, D.all]
  · rcases List.mem_cons.1 h with rfl | h
    · exact closed_Hs m.ids
    · obtain rfl := List.mem_singleton.1 h
      exact closed_Es m.es
theorem closed_Ms (l : List DMs) : (D.sl .no (l.map encMs)).closed := by
  simp only [D.closed, D.all, Own.all, true_and]
  refine allL_iff.2 fun d hd => ?_
  obtain ⟨b, _, rfl⟩ := List.mem_map.1 hd
  exact closed_encMs b
theorem agg_W (l : List H32) : D.agg [.v (.int .i64 2), .v (.bool false), D.v (.int .u8 0), D.v (.int .u8 0), D.v (.int .u8 0), D.v (.int .u8 0), D.v (.int .u8 0), D.v (.int .u8 0), D.v (.int .u8 0), D.v (.int .u8 0), D.v (.int .u8 0), D.v (.int .u8 0), D.v (.int .u8 0), D.v (.int .u8 0), D.v (.int .u8 0), D.v (.int .u8 0), D.v (.int .u8 0), D.v (.int .u8 0), D.v (.int .u8 0), D.v (.int .u8 0), D.v (.int .u8 0), D.v (.int .u8 0), D.v (.int .u8 0), D.v (.int .u8 0), D.v (.int .u8 0), D.v (.int .u8 0), D.v (.int .u8 0), D.v (.int .u8 0), D.v (.int .u8 0), D.v (.int .u8 0), D.v (.int .u8 0), D.v (.int .u8 0), D.v (.int .u8 0), D.v (.int .u8 0), D.v (.int .u8 0), D.v (.int .u8 0), D.v (.int .u8 0), D.v (.int .u8 0), D.v (.int .u8 0), D.v (.int .u8 0), D.v (.int .u8 0), D.v (.int .u8 0), D.v (.int .u8 0), D.v (.int .u8 0), D.v (.int .u8 0), D.v (.int .u8 0), D.v (.int .u8 0), D.v (.int .u8 0), D.v (.int .u8 0), D.v (.int .u8 0), D.v (.int .u8 0), D.v (.int .u8 0), D.v (.int .u8 0), D.v (.int .u8 0), D.v (.int .u8 0), D.v (.int .u8 0), D.v (.int .u8 0), D.v (.int .u8 0), D.v (.int .u8 0), D.v (.int .u8 0), D.v (.int .u8 0), D.v (.int .u8 0), D.v (.int .u8 0), D.v (.int .u8 0), D.v (.int .u8 0), D.v (.int .u8 0), .sl .no (l.map encH), .sl .full []] = encW l := by kernel_rfl
theorem cl_encW (l : List H32) : (encW l).cells.length = 68 := by show (_ :: _ :: (_ ++ _)).length = 68; simp [zF]
theorem okCell_encW (l : List H32) : (encW l).okCell = true := rfl
theorem width_encW (l : List H32) : (encW l).width = 68 := by show (_ :: _ :: (_ ++ _)).length = 68; simp [zF]
theorem elMs : elT Try.prog 36 = some 26 := by kernel_rfl
theorem szMs : szOf Try.prog 26 = 68 := by kernel_rfl
theorem byMs : bytesOf Try.prog 26 = 128 := by kernel_rfl
theorem zeMs : zeroT Try.prog 26 = true := by kernel_rfl
section
set_option maxRecDepth 200000
set_option maxHeartbeats 8000000
theorem cloneHs_d (own : Own) (l : List H32) (h0 : 0 < l.length) (hl : l.length ≤ 1000000) : DPure Try.prog 32 [.sl own (l.map encH)] (.sl .no (l.map encH)) := by
  refine dpure_of_dwp mixed Try.func32 rfl (fun _ _ => by kernel_rfl) (rs := [.tmp 2]) rfl (by kernel_rfl) (closed_Hs _) (fun S hS => ?_)
  (simp (disch := first | decide | omega | (simp only [nx]; first | done | omega)) only [go_sem]; (repeat with_reducible refine aI ?_))
  refine app_more elHs zeHs (.inl rfl) (fun _ h => by cases h) (by rw [szHs]; exact wHs l) (by simp only [List.length_nil, List.length_map]; omega) (by simp only [List.length_nil, List.length_map, byHs]; omega) ?_
  (simp (disch := first | decide | omega | (simp only [nx]; first | done | omega)) only [go_sem, List.nil_append]; (repeat with_reducible refine aI ?_))
  refine ⟨?_, St.Sub.grow (St.Sub.refl S) hS (fun _ h => by cases h) _ _⟩
  simp only [D.frz, frz_Hs]
structure OutM (k : Nat) (S : St) (es : List D) (T : St) : Prop where
  ex : ∃ own, T.ob k = some (.box 36 [.sl own es]) ∧ ((own = .full ∧ es = []) ∨ ∃ g, own = .row g ∧ k ≠ g ∧ S.next ≤ g ∧ T.ob g = some (.row 26 es.length))
  sub : S.Sub T
  ge : S.next ≤ k
theorem dapp_ms {S : St} {ty : TypeId} {own own2 : Own} {es : List D} {o : D} {K : D → St → Prop} (h : (own = .full ∧ es = []) ∨ ∃ g, own = .row g ∧ S.ob g = some (.row 26 es.length)) (hl : es.length ≤ 1000000) (hw : ∀ d ∈ es, d.width = 68) (ho : o.width = 68)
    (k : K (.sl (.row S.next) (es ++ [o])) (S.grow own 26 (es.length + 1))) : dapp Try.prog S 36 36 ty (.sl own es) (.sl own2 [o]) K := by
  refine dapp_row ?_
  simp only [dappend, elMs, zeMs, byMs, szMs, true_and, Option.isSome_some, List.length_cons, List.length_nil]
  refine ⟨hw, fun d hd => by obtain rfl := List.mem_singleton.1 hd; exact ho, ?_, by omega, by omega, k⟩
  rcases h with ⟨rfl, rfl⟩ | ⟨g, rfl, h⟩
  · trivial
  · exact h
theorem OutM.app {k : Nat} {S T : St} {es : List D} {own : Own} {o : D} (hT : T.WF) (hS : S.WF) (h : OutM k S es T) (hk : T.ob k = some (.box 36 [.sl own es])) : OutM k S (es ++ [o]) ((T.grow own 26 (es.length + 1)).set k (.box 36 [.sl (.row T.next) (es ++ [o])])) := by
  obtain ⟨own', h1, h2⟩ := h.ex
  rw [h1] at hk
  injection hk with hk
  injection hk with _ hk
  injection hk with hk _
  injection hk with hk _
  subst hk
  have hkl := hT.lt h1
  have hge := h.ge
  have hnx := h.sub.next
  refine ⟨⟨.row T.next, by simp [St.set], .inr ⟨T.next, rfl, by omega, by omega, ?_⟩⟩, ?_, hge⟩
  · have : T.next ≠ k := by omega
    rcases h2 with ⟨rfl, rfl⟩ | ⟨g, rfl, _⟩ <;> simp [St.grow, St.leave, St.add, St.set, St.drop, this]
  · have hg : S.Sub (T.grow own' 26 (es.length + 1)) := by
      rcases h2 with ⟨rfl, rfl⟩ | ⟨g, rfl, _, hg, _⟩
      · exact h.sub.add hS _
      · exact (h.sub.drop hS hg).add hS _
    exact hg.set hS hge _
theorem OutM.keep {k : Nat} {S T : St} {es : List D} {own : Own} (hT : T.WF) (h : OutM k S es T) (hk : T.ob k = some (.box 36 [.sl own es])) (e : TypeId) (n : Nat) : (T.grow own e n).ob k = some (.box 36 [.sl own es]) := by
  obtain ⟨own', h1, h2⟩ := h.ex
  have hkl := hT.lt hk
  rw [h1] at hk
  injection hk with hk
  injection hk with _ hk
  injection hk with hk _
  injection hk with hk _
  subst hk
  have h3 : k ≠ T.next := by omega
  rcases h2 with ⟨rfl, rfl⟩ | ⟨g, rfl, hkg, _⟩
  · simp [St.grow, St.leave, St.add, h3, h1]
  · simp [St.grow, St.leave, St.add, St.drop, h3, hkg, h1]
theorem chunks8_take {α : Type} (l : List α) {i : Nat} (h : i < (l.length + 7) / 8) : (chunks8 l).take (i + 1) = (chunks8 l).take i ++ [chunk8 l i] := by
  have : i < (chunks8 l).length := by simpa [chunks8] using h
  rw [List.take_succ_eq_append_getElem this]
  simp [chunks8]
theorem chunks8_length {α : Type} (l : List α) : (chunks8 l).length = (l.length + 7) / 8 := by simp [chunks8]
theorem wants_d (own : Own) (l : List H32) (hl : l.length ≤ 1000000) : DPure Try.prog 12 [.sl own (l.map encH)] (.sl .no ((wantsM l).map encMs)) := by
  refine dpure_frz (closed_Ms _) fun S hS => ?_
  refine dcalls_range mixed Try.func12 rfl (fun _ _ => by kernel_rfl) (rs := [.tmp 2]) rfl (by kernel_rfl) fun _ => ?_
  (simp (disch := first | decide | omega | (simp only [nx]; first | done | omega)) only [go_sem]; (repeat with_reducible refine aI ?_))
  refine DCalls.of_pure (hsort_d own l hl) ?_
  (simp (disch := first | decide | omega | (simp only [nx]; first | done | omega)) only [go_sem]; (repeat with_reducible refine aI ?_))
  refine DCalls.mono (DCalls.wf (chunkH_d .no ((sortH l).map encH))) ?_
  rintro d T ⟨⟨rfl, hsub⟩, hT⟩
  have hsl := sortH_len l
  have hcl : (chunks8 (sortH l)).length = ((sortH l).length + 7) / 8 := chunks8_length _
  (simp (disch := first | decide | omega | (simp only [nx]; first | done | omega)) only [go_sem]; (repeat with_reducible refine aI ?_))
  refine drange_mk (((sortH l).length + 7) / 8) (fun i => .sl .no ((((sortH l).map encH).drop (8 * i)).take 8)) (fun i T' => OutM S.next S (((chunks8 (sortH l)).take i).map encW) T') (by (first | (simp (disch := first | decide | omega | (simp only [nx]; first | done | omega)) only [go_sem]; first | done | rfl) | rfl)) (by have := chunkH_seq (S := T) .no ((sortH l).map encH) (wHs _); rwa [List.length_map] at this) ?_ ?_ ?_
  · exact ⟨⟨.full, hsub.ob _ _ (by (first | (simp (disch := first | decide | omega | (simp only [nx]; first | done | omega)) only [go_sem]; first | done | rfl) | rfl)), .inl ⟨rfl, rfl⟩⟩, ((St.Sub.refl S).add hS _).trans hsub, Nat.le_refl _⟩
  · intro i T1 hi hT1 hI
    obtain ⟨own1, h1, h2⟩ := hI.ex
    have hkl := hT1.lt h1
    obtain ⟨hc0, hc8⟩ := chunk8_pos hi
    simp only [chunk8_map]
    generalize hes : ((chunks8 (sortH l)).take i).map encW = es at *
    have hel : es.length ≤ 1000000 := by rw [← hes, List.length_map, List.length_take]; omega
    have hew : ∀ d ∈ es, d.width = 68 := fun d hd => by rw [← hes] at hd; obtain ⟨m, _, rfl⟩ := List.mem_map.1 hd; exact width_encW m
    (simp (disch := first | decide | omega | (simp only [nx]; first | done | omega)) only [go_sem]; (repeat with_reducible refine aI ?_))
    refine ddraw_any (fun S' => S'.ob S.next = some (.box 36 [.sl own1 es])) 6 (by (first | (simp (disch := first | decide | omega | (simp only [nx]; first | done | omega)) only [go_sem, h1]; first | done | rfl) | rfl)) (by kernel_rfl) ?_
    (refine s_take 0 rfl (by kernel_rfl) (by kernel_rfl) (v := ?v1) (fun S' hz => dquietR_of ?h1) <| s_take 1 rfl (by kernel_rfl) (by kernel_rfl) (v := ?v2) (fun S' hz => dquietR_of ?h2) <| ?k2; (case h1 | h2 => ((simp (disch := first | decide | omega | (simp only [nx]; first | done | omega)) only [go_sem, hz]; (repeat with_reducible refine aI ?_)); first | done | exact rfl | omega)))
    (refine s_take 2 rfl (by kernel_rfl) (by kernel_rfl) (v := ?v3) (fun S' hz => dquietR_of ?h3) ?k3; (case h3 => ((simp (disch := first | decide | omega | (simp only [nx]; first | done | omega)) only [go_sem, hz]; (repeat with_reducible refine aI ?_)); refine dqgo_mk (cloneHs_d .no (chunk8 (sortH l) i) hc0 (by omega)) ?_; exact rfl)))
    (refine s_take 3 rfl (by kernel_rfl) (by kernel_rfl) (v := ?v4) (fun S' hz => dquietR_of ?h4) <| s_take 4 rfl (by kernel_rfl) (by kernel_rfl) (v := ?v5) (fun S' hz => dquietR_of ?h5) <| ?k5; (case h4 | h5 => ((simp (disch := first | decide | omega | (simp only [nx]; first | done | omega)) only [go_sem, agg_W, width_encW, okCell_encW, cl_encW, hz]; (repeat with_reducible refine aI ?_)); first | done | exact rfl | omega)))
    (refine s_split [5] (by kernel_rfl) (by simp) ?_; intro j_ hj_; obtain rfl : j_ = 5 := (by simpa using hj_); clear hj_; refine s_op rfl ?_; (simp (disch := first | decide | omega | (simp only [nx]; first | done | omega)) only [go_sem]; (repeat with_reducible refine aI ?_)))
    refine dapp_ms (h2.imp id fun ⟨g, e, _, _, h⟩ => ⟨g, e, h⟩) hel hew (width_encW _) ?_
    have hg := hI.keep hT1 h1 26 (es.length + 1)
    refine ⟨hg, ?_⟩
    (refine s_done (by kernel_rfl) ?_; (simp (disch := first | decide | omega | (simp only [nx]; first | done | omega)) only [go_sem, hg]; (repeat with_reducible refine aI ?_)))
    rw [chunks8_take _ hi, List.map_append, hes]
    exact hI.app hT1 hS h1
  · intro T1 hT1 hI
    obtain ⟨own1, h1, h2⟩ := hI.ex
    have et : (chunks8 (sortH l)).take (((sortH l).length + 7) / 8) = chunks8 (sortH l) := List.take_of_length_le (by omega)
    rw [et] at h1
    (simp (disch := first | decide | omega | (simp only [nx]; first | done | omega)) only [go_sem, h1]; (repeat with_reducible refine aI ?_))
    refine ⟨?_, hI.sub⟩
    simp only [D.frz, frzL_map, List.map_map, wantsM]
    congr 1
    exact List.map_congr_left fun m _ => frz_encW m
end
end Go.Proofs.Ytonncfminojejaa

namespace Go.Proofs.Ytonncfminojejaa
open Go.RowKit
theorem dIf_cut {P : Program} {f : Fm} {S : St} {Q : DQ} {b : Bool} {x y : Code} {k : Fm → St → Prop} (J : Fm → St → Prop) (h : dIf (.v (.bool b)) (dwpF P x (DQ.then J Q) f S) (dwpF P y (DQ.then J Q) f S)) (hk : ∀ f' S', J f' S' → k f' S') : dIf (.v (.bool b)) (dwpF P x (DQ.then k Q) f S) (dwpF P y (DQ.then k Q) f S) := by
  have key : ∀ c : Code, dwp P c (DQ.then J Q) f S → dwp P c (DQ.then k Q) f S := fun c hc => dwp_mono c (fun e f' S' hq => by
    cases e with
    | normal => exact hk _ _ hq
    | exit i => exact hq
    | ret => exact hq) hc
  exact ⟨fun e => key x (h.1 e), fun e => key y (h.2 e)⟩
def encX (n : Int) (x y : D) : D := .agg (.v (.int .i64 n) :: .v (.bool false) :: (zF.1.map bD ++ [x, y]))
theorem agg_X2 (x y : D) : D.agg [.v (.int .i64 2), .v (.bool false), D.v (.int .u8 0), D.v (.int .u8 0), D.v (.int .u8 0), D.v (.int .u8 0), D.v (.int .u8 0), D.v (.int .u8 0), D.v (.int .u8 0), D.v (.int .u8 0), D.v (.int .u8 0), D.v (.int .u8 0), D.v (.int .u8 0), D.v (.int .u8 0), D.v (.int .u8 0), D.v (.int .u8 0), D.v (.int .u8 0), D.v (.int .u8 0), D.v (.int .u8 0), D.v (.int .u8 0), D.v (.int .u8 0), D.v (.int .u8 0), D.v (.int .u8 0), D.v (.int .u8 0), D.v (.int .u8 0), D.v (.int .u8 0), D.v (.int .u8 0), D.v (.int .u8 0), D.v (.int .u8 0), D.v (.int .u8 0), D.v (.int .u8 0), D.v (.int .u8 0), D.v (.int .u8 0), D.v (.int .u8 0), D.v (.int .u8 0), D.v (.int .u8 0), D.v (.int .u8 0), D.v (.int .u8 0), D.v (.int .u8 0), D.v (.int .u8 0), D.v (.int .u8 0), D.v (.int .u8 0), D.v (.int .u8 0), D.v (.int .u8 0), D.v (.int .u8 0), D.v (.int .u8 0), D.v (.int .u8 0), D.v (.int .u8 0), D.v (.int .u8 0), D.v (.int .u8 0), D.v (.int .u8 0), D.v (.int .u8 0), D.v (.int .u8 0), D.v (.int .u8 0), D.v (.int .u8 0), D.v (.int .u8 0), D.v (.int .u8 0), D.v (.int .u8 0), D.v (.int .u8 0), D.v (.int .u8 0), D.v (.int .u8 0), D.v (.int .u8 0), D.v (.int .u8 0), D.v (.int .u8 0), D.v (.int .u8 0), D.v (.int .u8 0), x, y] = encX 2 x y := by kernel_rfl
theorem cl_encX (n : Int) (x y : D) : (encX n x y).cells.length = 68 := by show (_ :: _ :: (_ ++ _)).length = 68; simp [zF]
theorem frz_encX2 (o : Own) (l : List H32) (o2 : Own) : (encX 2 (.sl o (l.map encH)) (.sl o2 [])).frz = encMs (wantM l) := by
  simp only [encX, encMs, msCs, msT, wantM, frz_agg, frzL, D.frz, frzL_append, frz_bB, frz_Hs, List.map_nil]
section
set_option maxRecDepth 200000
set_option maxHeartbeats 8000000
end
end Go.Proofs.Ytonncfminojejaa

namespace Go.Proofs.Ytonncfminojejaa
open Go.RowKit
theorem dapp_rowW {P : Program} {S : St} {t tx ty e : TypeId} (he : elT P t = some e) (hx : (elT P tx).isSome = true) (hz : zeroT P e = true) {own : Own} {es es2 : List D} {k off n c : Nat} {K : D → St → Prop} (hs : SrcOk S (szOf P e) (.win k off n c) es2.length (flat es2)) (hw1 : ∀ d ∈ es, d.width = szOf P e) (hw2 : ∀ d ∈ es2, d.width = szOf P e)
    (hown : own = .full ∨ ∃ g, own = .row g ∧ S.ob g = some (.row e es.length)) (hlen : es.length + es2.length ≤ 140737488355328) (hby : (es.length + es2.length) * bytesOf P e ≤ 140737488355328) (hK : K (.sl (.row S.next) (es ++ es2)) (S.grow own e (es.length + es2.length))) : dapp P S t tx ty (.sl own es) (.win k off n c) K := by
  refine dapp_srcW fun base η w vs hM hr => ?_
  simp only [RepL] at hr
  obtain ⟨x1, _, rfl, r1, x2, _, rfl, r2, rfl⟩ := hr
  obtain ⟨us, ⟨⟨A, c', hv, hle, hA⟩, hl, h1⟩, hru⟩ := srcOk_at hM hs r2
  have hsrc : Src P (szOf P e) tx x2 es2.length us w := by
    obtain ⟨e', he'⟩ := Option.isSome_iff_exists.1 hx
    have hk := elT_spec he'
    subst hv
    rcases hA with ⟨rfl, h0⟩ | ⟨a, rfl, hc⟩
    · rw [h0, Nat.zero_mul] at hl
      have hu0 : us = [] := List.eq_nil_of_length_eq_zero hl
      rw [h0, hu0]
      exact Src.ofNil w hk c'
    · exact Src.ofSlice w hk a _ c' us hl hc h1
  obtain ⟨v', η', w', k1, k2, k3⟩ := append_stepS (ty := ty) hM r1 hsrc hru h1 he hz hw1 hw2 hown hlen hby
  exact ⟨_, _, η', v', w', k1, hK, k3, k2⟩
theorem flat_bD : ∀ l : List UInt8, flat (l.map bD) = l.map bD
  | [] => rfl
  | b :: l => by rw [List.map_cons, flat_cons, flat_bD l]; rfl
theorem dapp_bytesW {S : St} {ty : TypeId} {own : Own} {bs xs : List UInt8} {j off c : Nat} {K : D → St → Prop} (hs : SrcOk S 1 (.win j off xs.length c) xs.length (xs.map bD)) (h : (own = .full ∧ bs = []) ∨ ∃ g, own = .row g ∧ S.ob g = some (.row 5 bs.length)) (hl : bs.length + xs.length ≤ 1099511627776)
    (k : K (.sl (.row S.next) ((bs ++ xs).map bD)) (S.grow own 5 (bs.length + xs.length))) : dapp Try.prog S 29 29 ty (.sl own (bs.map bD)) (.win j off xs.length c) K := by
  refine dapp_rowW (es2 := xs.map bD) elBy (by rw [elBy]; rfl) zeBy (by rw [szBy, flat_bD, List.length_map]; exact hs) (by rw [szBy]; exact wBy bs) (by rw [szBy]; exact wBy xs) ?_ (by rw [List.length_map, List.length_map]; omega) (by rw [List.length_map, List.length_map, byBy]; omega) ?_
  · rcases h with ⟨rfl, _⟩ | ⟨g, rfl, h⟩
    · exact .inl rfl
    · exact .inr ⟨g, rfl, by rw [List.length_map]; exact h⟩
  · rw [List.map_append] at k
    rw [List.length_map, List.length_map]
    exact k
set_option maxRecDepth 200000 in
set_option maxHeartbeats 4000000 in
theorem raw_win {S : St} {k : Nat} {bs : List UInt8} {j off c : Nat} (xs : List UInt8) (hs : SrcOk S 1 (.win j off xs.length c) xs.length (xs.map bD)) (hk : k < S.next) (h : WAt k bs S) (hl : bs.length + xs.length ≤ 1099511627776) : DCalls Try.prog 24 [.loc k 0, .win j off xs.length c] S fun d T => d = undefD ∧ WAt k (bs ++ xs) T ∧ WFr k S T := by
  obtain ⟨own, h1, h2⟩ := h
  refine dcalls_inline mixed Try.func24 rfl (fun _ _ => by kernel_rfl) (rs := []) rfl (by kernel_rfl) (fun hS => ?_)
  (simp (disch := first | decide | omega | (simp only [nx]; first | done | omega)) only [go_sem, h1]; (repeat with_reducible refine aI ?_))
  have hk2 : (k = S.next) = False := by simp; omega
  rcases h2 with ⟨rfl, rfl⟩ | ⟨g, rfl, hg, h2⟩
  · refine dapp_bytesW hs (.inl ⟨rfl, rfl⟩) (by omega) ?_
    (simp (disch := first | decide | omega | (simp only [nx]; first | done | omega)) only [go_sem, hk2, h1]; (repeat with_reducible refine aI ?_))
    refine ⟨⟨.row S.next, by simp [St.set], .inr ⟨S.next, rfl, by omega, ?_⟩⟩, ⟨by simp [St.set, St.grow, St.leave, St.add], fun j' o hj e => ?_⟩⟩
    · simp [St.grow, St.leave, St.add, St.set, Ne.symm (show k ≠ S.next by omega)]
    · have hlt := hS.lt e
      have hj : j' ≠ k := by rcases hj with h | h; omega; exact h.1
      simp [St.grow, St.leave, St.add, St.set, hj, show j' ≠ S.next by omega, e]
  · have hkg : (k = g) = False := by simp; omega
    refine dapp_bytesW hs (.inr ⟨g, rfl, h2⟩) (by omega) ?_
    (simp (disch := first | decide | omega | (simp only [nx]; first | done | omega)) only [go_sem, hk2, hkg, h1]; (repeat with_reducible refine aI ?_))
    refine ⟨⟨.row S.next, by simp [St.set], .inr ⟨S.next, rfl, by omega, ?_⟩⟩, ⟨by simp [St.set, St.grow, St.leave, St.add, St.drop], fun j' o hj e => ?_⟩⟩
    · simp [St.grow, St.leave, St.add, St.set, St.drop, Ne.symm (show k ≠ S.next by omega)]
    · have hlt := hS.lt e
      have hjg : j' ≠ g := fun e2 => by
        rcases hj with h | ⟨_, t, cs, rfl⟩
        · omega
        · rw [e2, h2] at e; cases e
      have hj : j' ≠ k := by rcases hj with h | h; omega; exact h.1
      simp [St.grow, St.leave, St.add, St.set, St.drop, hj, hjg, show j' ≠ S.next by omega, e]
def headB (m : DMs) : List UInt8 := b8 m.k.toNat :: (if m.k = 1 then (if m.r then 1 else 0) :: m.f.1 else [])
def idsB2 (l : List H32) : List UInt8 := l.flatMap (·.1)
def esB (l : List (List UInt8)) : List UInt8 := l.flatMap fun b => numB b.length ++ b
def bytesM (m : DMs) : List UInt8 := headB m ++ numB (m.ids.length + m.es.length) ++ idsB2 m.ids ++ esB m.es
noncomputable def encRes25 (m : DMs) : D := if rightM m = true then .tup [.sl .no ((bytesM m).map bD), .v .nilIface] else .tup [.sl .no [], erD 1]
theorem encRes25_closed (m : DMs) : (encRes25 m).closed := by
  unfold encRes25
  split
  · have := closed_bB (bytesM m)
    simp only [D.closed, D.all, allL] at this ⊢
    exact ⟨this, trivial, trivial⟩
  · simp [D.closed, D.all, allL, Own.all, erD]
theorem right_kind {m : DMs} (h : rightM m = true) : m.k = 1 ∨ m.k = 2 ∨ m.k = 3 := by
  unfold rightM at h
  by_cases h1 : m.k = 1
  · exact .inl h1
  · by_cases h2 : m.k = 2
    · exact .inr (.inl h2)
    · by_cases h3 : m.k = 3
      · exact .inr (.inr h3)
      · rw [if_neg h1, if_neg h2, if_neg h3] at h; cases h
theorem right_es {m : DMs} (h : rightM m = true) : m.ids.length ≤ 64 ∧ m.es.length ≤ 8 ∧ ∀ b ∈ m.es, 1 ≤ b.length ∧ b.length ≤ 4096 := by
  unfold rightM at h
  by_cases h1 : m.k = 1
  · rw [if_pos h1] at h
    simp only [Bool.and_eq_true, decide_eq_true_eq] at h
    rw [h.2]
    exact ⟨h.1.1, by simp, fun b hb => by cases hb⟩
  · rw [if_neg h1] at h
    by_cases h2 : m.k = 2
    · rw [if_pos h2] at h
      simp only [batchN, Bool.and_eq_true, decide_eq_true_eq] at h
      rw [h.2]
      exact ⟨by omega, by simp, fun b hb => by cases hb⟩
    · rw [if_neg h2] at h
      by_cases h3 : m.k = 3
      · rw [if_pos h3] at h
        simp only [batchN, Bool.and_eq_true, decide_eq_true_eq, Bool.not_eq_true', List.any_eq_false] at h
        rw [h.1.1.2]
        refine ⟨by simp, by omega, fun b hb => ?_⟩
        have := h.2 b hb
        simp only [badE, Bool.or_eq_true, decide_eq_true_eq] at this
        omega
      · rw [if_neg h3] at h; cases h
theorem idsB2_take {l : List H32} {i : Nat} (h : i < l.length) : idsB2 (l.take (i + 1)) = idsB2 (l.take i) ++ l[i].1 := by
  rw [idsB2, List.take_succ_eq_append_getElem h, List.flatMap_append]; simp [idsB2]
theorem esB_take {l : List (List UInt8)} {i : Nat} (h : i < l.length) : esB (l.take (i + 1)) = esB (l.take i) ++ (numB l[i].length ++ l[i]) := by
  rw [esB, List.take_succ_eq_append_getElem h, List.flatMap_append]; simp [esB]
theorem idsB2_len : ∀ (l : List H32), (idsB2 l).length = 32 * l.length
  | [] => rfl
  | h :: l => by
    have := idsB2_len l
    show (h.1 ++ idsB2 l).length = _
    rw [List.length_append, h.2, this, List.length_cons]; omega
theorem esB_len : ∀ (l : List (List UInt8)), (∀ b ∈ l, b.length ≤ 4096) → (esB l).length ≤ 4200 * l.length
  | [], _ => Nat.le_refl _
  | b :: l, h => by
    have h1 := esB_len l fun x hx => h x (List.mem_cons_of_mem _ hx)
    have h2 := h b (List.mem_cons_self ..)
    have h3 := numB_length_le b.length (by omega)
    show ((numB b.length ++ b) ++ esB l).length ≤ _
    simp only [List.length_append, List.length_cons]
    omega
theorem add_setq (T : St) (o o' : Ob) : (T.add o).set T.next o' = T.add o' := by
  unfold St.add St.set
  congr 1
  funext j
  by_cases h : j = T.next <;> simp [h]
theorem srcOk_hash {S : St} {k c : Nat} {t : TypeId} {h : H32} (hk : S.ob k = some (.box t (h.1.map bD))) : SrcOk S 1 (.win k 0 32 c) 32 (h.1.map bD) := by
  have := srcOk_win (z := 1) (off := 0) (n := 32) (c := c) hk (by rw [len_encH]; omega)
  rwa [List.drop_zero, Nat.mul_one, take_hash] at this
theorem srcOk_filter {S : St} {k c : Nat} {t : TypeId} {m : DMs} (hk : S.ob k = some (.box t (msCs m))) : SrcOk S 1 (.win k 2 64 c) 64 (m.f.1.map bD) := by
  have := srcOk_win (z := 1) (off := 2) (n := 64) (c := c) hk (by rw [len_msCs]; omega)
  rwa [Nat.mul_one, f_msCs] at this
section
set_option maxRecDepth 200000
set_option maxHeartbeats 8000000
theorem encode25_d (m : DMs) (hi : m.ids.length ≤ 1000000) (he : m.es.length ≤ 1000000) : DPure Try.prog 9 [encMs m] (encRes25 m) := by
  refine dpure_of_dwp mixed Try.func9 rfl (fun _ _ => by kernel_rfl) (rs := [.tmp 2, .tmp 3]) rfl (by kernel_rfl) (encRes25_closed m) (fun S hS => ?_)
  (simp (disch := first | decide | omega | (simp only [nx]; first | done | omega)) only [go_sem]; (repeat with_reducible refine aI ?_))
  refine DCalls.of_pure (right25_d m hi he) ?_
  cases hrt : rightM m with
  | false =>
    (simp (disch := first | decide | omega | (simp only [nx]; first | done | omega)) only [go_sem]; (repeat with_reducible refine aI ?_))
    refine ⟨?_, (by (repeat' first | assumption | exact St.Sub.refl _ | exact RowOk.sub (by assumption) (by assumption) | refine St.Sub.trans ?_ (RowOk.sub (by assumption) (by assumption)) | refine St.Sub.add ?_ ?_ _ | refine St.Sub.set ?_ ?_ ?_ _ | refine St.Sub.keep ?_ ?_ | refine St.WF.leave ?_ _ | refine St.WF.add ?_ _ | refine St.WF.set ?_ ?_ _ | refine St.WF.grow ?_ _ _ _ | refine St.WF.keep ?_ ?_ | (first | omega | (simp only [RowOk.lo, nx]; first | done | omega))))⟩
    rw [encRes25, if_neg (by rw [hrt]; simp)]
    rfl
  | true =>
    obtain ⟨n, hn, hn3⟩ : ∃ n : Nat, m.k = (n : Int) ∧ n < 128 := by
      rcases right_kind hrt with h | h | h
      · exact ⟨1, h, by omega⟩
      · exact ⟨2, h, by omega⟩
      · exact ⟨3, h, by omega⟩
    obtain ⟨hids, hes, hbs⟩ := right_es hrt
    have wk : IntKind.u8.wrap m.k = ((b8 n).toNat : Int) := by
      rw [hn, wrap_u8]
      unfold b8
      rw [UInt8.toNat_ofNat']
      omega
    (simp (disch := first | decide | omega | (simp only [nx]; first | done | omega)) only [go_sem, cv_i64u8, wk]; (repeat with_reducible refine aI ?_))
    have hT0 : ((S.add (.box 26 (msCs m))).add (.box 53 [.sl .full []])).WF := (hS.add _).add _
    have tm : ((S.add (.box 26 (msCs m))).add (.box 53 [.sl .full []])).ob S.next = some (.box 26 (msCs m)) := by (first | (simp (disch := first | decide | omega | (simp only [nx]; first | done | omega)) only [go_sem]; first | done | rfl) | rfl)
    have tw : WAt (S.next + 1) [] ((S.add (.box 26 (msCs m))).add (.box 53 [.sl .full []])) := ⟨.full, by (first | (simp (disch := first | decide | omega | (simp only [nx]; first | done | omega)) only [go_sem]; first | done | rfl) | rfl), .inl ⟨rfl, rfl⟩⟩
    have ts : S.Sub ((S.add (.box 26 (msCs m))).add (.box 53 [.sl .full []])) := ((St.Sub.refl S).add hS _).add hS _
    obtain ⟨T0, hT0e⟩ : ∃ T, T = (S.add (.box 26 (msCs m))).add (.box 53 [.sl .full []]) := ⟨_, rfl⟩
    have tn : T0.next = S.next + 1 + 1 := by rw [hT0e]; rfl
    rw [← hT0e] at hT0 tm tw ts ⊢
    clear hT0e
    refine DCalls.mono (DCalls.wf (byte_w (b8 n) (by omega) tw (by simp))) ?_
    rintro _ T1 ⟨⟨rfl, h1, F1⟩, hT1⟩
    have z1 := F1.box S.next _ _ (by omega) tm
    (simp (disch := first | decide | omega | (simp only [nx]; first | done | omega)) only [go_sem, z1]; (repeat with_reducible refine aI ?_))
    refine dIf_cut (fun f' S' => f' 1 = .loc S.next 0 ∧ f' 4 = .loc (S.next + 1) 0 ∧ S'.WF ∧ WAt (S.next + 1) (headB m) S' ∧ WFr (S.next + 1) T0 S') ?_ ?_
    · refine dIf_both (fun hb => ?_) (fun hb => ?_)
      · have hk1 : m.k = 1 := beq_iff_eq.1 hb
        (simp (disch := first | decide | omega | (simp only [nx]; first | done | omega)) only [go_sem, z1]; (repeat with_reducible refine aI ?_))
        have n1 := F1.next
        refine DCalls.mono (DCalls.wf (bool_w m.r (by omega) h1 (by simp))) ?_
        rintro _ T2 ⟨⟨rfl, h2, F2⟩, hT2⟩
        have z2 := F2.box S.next _ _ (by omega) z1
        have n2 := F2.next
        (simp (disch := first | decide | omega | (simp only [nx]; first | done | omega)) only [go_sem, z2]; (repeat with_reducible refine aI ?_))
        have hlf := m.f.2
        have key := raw_win (S := T2) (k := S.next + 1) (j := S.next) (off := 2) (c := 64) m.f.1 (by rw [hlf]; exact srcOk_filter z2) (by omega) h2 (by simp [hlf])
        rw [hlf] at key
        refine DCalls.mono (DCalls.wf key) ?_
        rintro _ T3 ⟨⟨rfl, h3, F3⟩, hT3⟩
        (simp (disch := first | decide | omega | (simp only [nx]; first | done | omega)) only [go_sem]; (repeat with_reducible refine aI ?_))
        refine ⟨?_, F1.trans (F2.trans F3)⟩
        have e : headB m = [] ++ [b8 n] ++ [if m.r = true then 1 else 0] ++ m.f.1 := by
          rw [headB, if_pos hk1, hn]; simp
        rw [e]
        exact h3
      · have hk1 : ¬ m.k = 1 := beq_eq_false_iff_ne.1 hb
        (simp (disch := first | decide | omega | (simp only [nx]; first | done | omega)) only [go_sem]; (repeat with_reducible refine aI ?_))
        refine ⟨?_, F1⟩
        have e : headB m = [] ++ [b8 n] := by rw [headB, if_neg hk1, hn]; simp
        rw [e]
        exact h1
    · rintro f' T2 ⟨f1, f4, hT2, h2, F2⟩
      have z2 := F2.box S.next _ _ (by omega) tm
      have n2 := F2.next
      have wa : IntKind.i64.wrap ((m.ids.length : Int) + (m.es.length : Int)) = ((m.ids.length + m.es.length : Nat) : Int) := (IntWalk.i64_in _ ⟨by omega, by omega⟩).trans (by omega)
      have wu : IntKind.u64.wrap ((m.ids.length + m.es.length : Nat) : Int) = ((m.ids.length + m.es.length : Nat) : Int) := wrap_u64 _ (by unfold IsU64; omega)
      have hhl : (headB m).length ≤ 100 := by
        rw [headB]
        split
        · simp [m.f.2]
        · simp
      (simp (disch := first | decide | omega | (simp only [nx]; first | done | omega)) only [go_sem, f1, f4, z2, cv_i64u64, wa, wu]; (repeat with_reducible refine aI ?_))
      refine DCalls.mono (DCalls.wf (number_w (m.ids.length + m.es.length) (by unfold IsU64; omega) (by omega) h2 (by omega))) ?_
      rintro _ T3 ⟨⟨rfl, h3, F3'⟩, hT3⟩
      have F3 := F2.trans F3'
      have z3 := F3.box S.next _ _ (by omega) tm
      have n3 := F3.next
      (simp (disch := first | decide | omega | (simp only [nx]; first | done | omega)) only [go_sem, f1, f4, z3]; (repeat with_reducible refine aI ?_))
      have hnl := numB_length_le (m.ids.length + m.es.length) (by omega)
      refine dloop_up (fun t => List.contains [6, 38, 39, 40, 41, 42, 43, 44] t) (by kernel_rfl) (by exact hT3) m.ids.length (fun i q T => i ≤ m.ids.length ∧ q 38 = .v (.int .i64 ((i : Nat) : Int)) ∧ WAt (S.next + 1) (headB m ++ numB (m.ids.length + m.es.length) ++ idsB2 (m.ids.take i)) T ∧ WFr (S.next + 1) T0 T)
        ⟨by omega, by (first | (simp (disch := first | decide | omega | (simp only [nx]; first | done | omega)) only [go_sem]; first | done | rfl) | rfl), by rw [List.take_zero]; simpa [idsB2] using h3, F3⟩ ?_
      rintro i q T4 hT4 hg ⟨le, q38, h4, F4⟩
      (have q1 := hg 1 rfl; have q2 := hg 2 rfl; have q3 := hg 3 rfl; have q4 := hg 4 rfl; have q36 := hg 36 rfl; have q37 := hg 37 rfl; simp (disch := first | decide | omega | (simp only [nx]; first | done | omega)) only [go_sem, f1, f4] at q1 q2 q3 q4 q36 q37; clear hg)
      have z4 := F4.box S.next _ _ (by omega) tm
      have n4 := F4.next
      have hil := idsB2_len (m.ids.take i)
      rw [List.length_take] at hil
      by_cases hlt : i < m.ids.length
      · have b1 : decide ((i : Int) < (m.ids.length : Int)) = true := decide_eq_true (by omega)
        have w1 : IntKind.i64.wrap ((i : Int) + 1) = ((i + 1 : Nat) : Int) := IntWalk.i64_in _ ⟨by omega, by omega⟩
        have lh := m.ids[i].2
        (simp (disch := first | decide | omega | (simp only [nx]; first | done | omega)) only [go_sem, q4, q36, q37, q38, b1, hlt, lh]; (repeat with_reducible refine aI ?_))
        rw [add_setq]
        have hob : (T4.add (.box 44 (m.ids[i].1.map bD))).ob T4.next = some (.box 44 (m.ids[i].1.map bD)) := by (first | (simp (disch := first | decide | omega | (simp only [nx]; first | done | omega)) only [go_sem]; first | done | rfl) | rfl)
        have h5 := h4.add hT4 (.box 44 (m.ids[i].1.map bD))
        have F5 := F4.add hT4 (.box 44 (m.ids[i].1.map bD))
        have hT5 := hT4.add (.box 44 (m.ids[i].1.map bD))
        have key := raw_win (S := T4.add (.box 44 (m.ids[i].1.map bD))) (k := S.next + 1) (j := T4.next) (off := 0) (c := 32) m.ids[i].1 (by rw [lh]; exact srcOk_hash hob) (by show S.next + 1 < T4.next + 1; omega) h5 (by simp only [List.length_append, lh]; omega)
        rw [lh] at key
        refine DCalls.mono (DCalls.wf key) ?_
        rintro _ T6 ⟨⟨rfl, h6, F6⟩, hT6⟩
        (simp (disch := first | decide | omega | (simp only [nx]; first | done | omega)) only [go_sem, q4, q38, w1]; (repeat with_reducible refine aI ?_))
        refine ⟨by omega, T6.ob, fun _ _ h => h, by omega, by (first | (simp (disch := first | decide | omega | (simp only [nx]; first | done | omega)) only [go_sem, w1]; first | done | rfl) | rfl), ?_, F5.trans F6⟩
        rw [idsB2_take hlt, ← List.append_assoc]
        exact h6
      · have b1 : decide ((i : Int) < (m.ids.length : Int)) = false := decide_eq_false (by omega)
        have et : m.ids.take i = m.ids := List.take_of_length_le (by omega)
        rw [et] at h4
        (simp (disch := first | decide | omega | (simp only [nx]; first | done | omega)) only [go_sem, q1, q4, q36, q37, q38, b1, z4]; (repeat with_reducible refine aI ?_))
        refine dloop_up (fun t => List.contains [8, 48, 49, 50, 51, 52, 53, 54] t) (by kernel_rfl) (by exact hT4) m.es.length (fun i q T => i ≤ m.es.length ∧ q 48 = .v (.int .i64 ((i : Nat) : Int)) ∧ WAt (S.next + 1) (headB m ++ numB (m.ids.length + m.es.length) ++ idsB2 m.ids ++ esB (m.es.take i)) T ∧ WFr (S.next + 1) T0 T)
          ⟨by omega, by (first | (simp (disch := first | decide | omega | (simp only [nx]; first | done | omega)) only [go_sem]; first | done | rfl) | rfl), by rw [List.take_zero]; simpa [esB] using h4, F4⟩ ?_
        rintro j p T5 hT5 hgz ⟨lez, q48, h5, F5⟩
        (have q2z := hgz 2 rfl; have q3z := hgz 3 rfl; have q4z := hgz 4 rfl; have q46z := hgz 46 rfl; have q47z := hgz 47 rfl; simp (disch := first | decide | omega | (simp only [nx]; first | done | omega)) only [go_sem, q1, q4] at q2z q3z q4z q46z q47z; clear hgz)
        have n5 := F5.next
        have hil2 := idsB2_len m.ids
        have hel := esB_len (m.es.take j) (fun b hb => (hbs b (List.mem_of_mem_take hb)).2)
        rw [List.length_take] at hel
        by_cases hlz : j < m.es.length
        · have b2 : decide ((j : Int) < (m.es.length : Int)) = true := decide_eq_true (by omega)
          have w2 : IntKind.i64.wrap ((j : Int) + 1) = ((j + 1 : Nat) : Int) := IntWalk.i64_in _ ⟨by omega, by omega⟩
          have ce := cells_encB m.es[j]
          have hbj := (hbs _ (List.getElem_mem hlz)).2
          (simp (disch := first | decide | omega | (simp only [nx]; first | done | omega)) only [go_sem, q4z, q46z, q47z, q48, b2, hlz, ce]; (repeat with_reducible refine aI ?_))
          refine DCalls.mono (DCalls.wf (bytes_w .no m.es[j] (by omega) h5 (by simp only [List.length_append]; omega))) ?_
          rintro _ T6 ⟨⟨rfl, h6, F6⟩, hT6⟩
          (simp (disch := first | decide | omega | (simp only [nx]; first | done | omega)) only [go_sem, q4z, q48, w2]; (repeat with_reducible refine aI ?_))
          refine ⟨by omega, T6.ob, fun _ _ h => h, by omega, by (first | (simp (disch := first | decide | omega | (simp only [nx]; first | done | omega)) only [go_sem, w2]; first | done | rfl) | rfl), ?_, F5.trans F6⟩
          rw [esB_take hlz, ← List.append_assoc]
          exact h6
        · have b2 : decide ((j : Int) < (m.es.length : Int)) = false := decide_eq_false (by omega)
          have et2 : m.es.take j = m.es := List.take_of_length_le (by omega)
          rw [et2] at h5 hel
          (simp (disch := first | decide | omega | (simp only [nx]; first | done | omega)) only [go_sem, q4z, q46z, q47z, q48, b2]; (repeat with_reducible refine aI ?_))
          refine DCalls.mono (out_w h5 (by simp only [List.length_append]; omega)) ?_
          rintro _ T6 ⟨o, rfl, h6, F6⟩
          (simp (disch := first | decide | omega | (simp only [nx]; first | done | omega)) only [go_sem]; (repeat with_reducible refine aI ?_))
          have F7 := F5.trans F6
          refine ⟨?_, ⟨by have := F7.next; have := ts.next; omega, fun j ob hj => F7.ob j ob (.inl (by have := hS.lt hj; omega)) (ts.ob j ob hj)⟩⟩
          rw [encRes25, if_pos hrt]
          simp only [D.frz, frzL, frz_bB, bytesM]
end
end Go.Proofs.Ytonncfminojejaa

namespace Go.Proofs.Ytonncfminojejaa
open Go.RowKit
def zH : H32 := ⟨List.replicate 32 0, by simp⟩
theorem agg_zH : D.agg [D.v (.int .u8 0), D.v (.int .u8 0), D.v (.int .u8 0), D.v (.int .u8 0), D.v (.int .u8 0), D.v (.int .u8 0), D.v (.int .u8 0), D.v (.int .u8 0), D.v (.int .u8 0), D.v (.int .u8 0), D.v (.int .u8 0), D.v (.int .u8 0), D.v (.int .u8 0), D.v (.int .u8 0), D.v (.int .u8 0), D.v (.int .u8 0), D.v (.int .u8 0), D.v (.int .u8 0), D.v (.int .u8 0), D.v (.int .u8 0), D.v (.int .u8 0), D.v (.int .u8 0), D.v (.int .u8 0), D.v (.int .u8 0), D.v (.int .u8 0), D.v (.int .u8 0), D.v (.int .u8 0), D.v (.int .u8 0), D.v (.int .u8 0), D.v (.int .u8 0), D.v (.int .u8 0), D.v (.int .u8 0)] = encH zH := by kernel_rfl
theorem agg_hA : D.agg [D.v (.int .u8 1), D.v (.int .u8 0), D.v (.int .u8 0), D.v (.int .u8 0), D.v (.int .u8 0), D.v (.int .u8 0), D.v (.int .u8 0), D.v (.int .u8 0), D.v (.int .u8 0), D.v (.int .u8 0), D.v (.int .u8 0), D.v (.int .u8 0), D.v (.int .u8 0), D.v (.int .u8 0), D.v (.int .u8 0), D.v (.int .u8 0), D.v (.int .u8 0), D.v (.int .u8 0), D.v (.int .u8 0), D.v (.int .u8 0), D.v (.int .u8 0), D.v (.int .u8 0), D.v (.int .u8 0), D.v (.int .u8 0), D.v (.int .u8 0), D.v (.int .u8 0), D.v (.int .u8 0), D.v (.int .u8 0), D.v (.int .u8 0), D.v (.int .u8 0), D.v (.int .u8 0), D.v (.int .u8 0)] = encH hA := by kernel_rfl
theorem other_no (m : DMs) (h1 : m.r = false) (h2 : m.f = zF) : otherM m = false := by rw [otherM, h1, decide_eq_true h2]; rfl
theorem right_want {l : List H32} {i : Nat} (h : AscH l) (hi : i < (l.length + 7) / 8) : rightM (wantM (chunk8 l i)) = true := by
  obtain ⟨h1, h2⟩ := chunk8_pos hi
  have ha : AscH (chunk8 l i) := List.Pairwise.sublist ((List.take_sublist _ _).trans (List.drop_sublist _ _)) h
  have hk1 : ¬ (wantM (chunk8 l i)).k = 1 := by simp [wantM]
  have hb : batchN (chunk8 l i).length = true := by rw [batchN, decide_eq_true (by omega), decide_eq_true (by omega)]; rfl
  have hk2 : (wantM (chunk8 l i)).k = 2 := rfl
  rw [rightM, if_neg hk1, if_pos hk2, other_no _ rfl rfl]
  show (!false && batchN (chunk8 l i).length && riseH (chunk8 l i) && decide (([] : List (List UInt8)) = [])) = true
  rw [hb, riseH_asc ha]
  rfl
section
set_option maxRecDepth 200000
set_option maxHeartbeats 8000000
theorem aw25r : rightM (wantM [zH]) = true := by
  have := right_want (l := [zH]) (i := 0) (by simp [AscH]) (by simp)
  simpa [chunk8] using this
theorem aw25b : bytesM (wantM [zH]) = [2, 1] ++ List.replicate 32 0 := by decide +kernel
theorem aw25w : (wantsM [hA, hA]).length = 1 := by decide +kernel
theorem awake25_d : DPure Try.prog 8 [] (.v (.bool true)) := by
  refine dpure_of_dwp mixed Try.func8 rfl (fun _ _ => by kernel_rfl) (rs := [.tmp 0]) rfl (by kernel_rfl) trivial (fun S hS => ?_)
  have lz := zH.2
  (simp (disch := first | decide | omega | (simp only [nx]; first | done | omega)) only [go_sem, placeH, agg_zH, agg_X2, lz, cl_encX]; (repeat with_reducible refine aI ?_))
  refine dcalls_argfrz ?_
  have e : frzL [encX 2 (.sl .full [encH zH]) (.sl .full [])] = [encMs (wantM [zH])] := congrArg (fun x => [x]) (frz_encX2 .full [zH] .full)
  rw [e]
  refine DCalls.of_pure (encode25_d (wantM [zH]) (by simp [wantM]) (by simp [wantM])) ?_
  rw [encRes25, if_pos aw25r]
  have hb34 : (bytesM (wantM [zH])).length = 34 := by rw [aw25b]; rfl
  have hb0 : (bytesM (wantM [zH]))[0]? = some 2 := by rw [aw25b]; rfl
  have hb1 : (bytesM (wantM [zH]))[1]? = some 1 := by rw [aw25b]; rfl
  generalize bytesM (wantM [zH]) = bs at *
  have c1 : ((bs.length : Int) == 34) = true := by rw [hb34]; rfl
  have h0 : 0 < bs.length := by omega
  have h1 : 1 < bs.length := by omega
  have g0 : bs[0] = 2 := by rw [List.getElem?_eq_getElem h0] at hb0; injection hb0
  have g1 : bs[1] = 1 := by rw [List.getElem?_eq_getElem h1] at hb1; injection hb1
  have t0 : (((UInt8.toNat 2 : Nat) : Int) == 2) = true := by decide
  have t1 : (((UInt8.toNat 1 : Nat) : Int) == 1) = true := by decide
  have lA : hA.1.length = 32 := hA.2
  (simp (disch := first | decide | omega | (simp only [nx]; first | done | omega)) only [go_sem, bnil_eq, c1, h0, h1, placeH, agg_hA, bD, g0, g1, t0, t1, lA]; (repeat with_reducible refine aI ?_))
  refine DCalls.of_pure (wants_d .full [hA, hA] (by decide)) ?_
  have c2 : ((((wantsM [hA, hA]).length : Nat) : Int) == 1) = true := by rw [aw25w]; rfl
  (simp (disch := first | decide | omega | (simp only [nx]; first | done | omega)) only [go_sem, c2]; (repeat with_reducible refine aI ?_))
  refine ⟨?_, (by (repeat' first | assumption | exact St.Sub.refl _ | exact RowOk.sub (by assumption) (by assumption) | refine St.Sub.trans ?_ (RowOk.sub (by assumption) (by assumption)) | refine St.Sub.add ?_ ?_ _ | refine St.Sub.set ?_ ?_ ?_ _ | refine St.Sub.keep ?_ ?_ | refine St.WF.leave ?_ _ | refine St.WF.add ?_ _ | refine St.WF.set ?_ ?_ _ | refine St.WF.grow ?_ _ _ _ | refine St.WF.keep ?_ ?_ | (first | omega | (simp only [RowOk.lo, nx]; first | done | omega))))⟩
  rfl
end
end Go.Proofs.Ytonncfminojejaa

namespace Go.Proofs.Ytonncfminojejaa
open Go.RowKit
theorem numB_inj {a b : Nat} {x y : List UInt8} (ha : a < 18446744073709551616) (hb : b < 18446744073709551616) (h : numB a ++ x = numB b ++ y) : a = b ∧ x = y := by
  have h1 := numP_numB a x ha
  have h2 := numP_numB b y hb
  rw [h, h2] at h1
  injection h1 with h1
  injection h1 with h1 _
  subst h1
  exact ⟨rfl, List.append_cancel_left h⟩
theorem ids_inj : ∀ (l m : List H32) {x y : List UInt8}, l.length = m.length → idsB2 l ++ x = idsB2 m ++ y → l = m ∧ x = y
  | [], [], _, _, _, h => ⟨rfl, h⟩
  | [], _ :: _, _, _, hl, _ => by simp at hl
  | _ :: _, [], _, _, hl, _ => by simp at hl
  | a :: l, b :: m, x, y, hl, h => by
    have e1 : idsB2 (a :: l) ++ x = a.1 ++ (idsB2 l ++ x) := by simp [idsB2]
    have e2 : idsB2 (b :: m) ++ y = b.1 ++ (idsB2 m ++ y) := by simp [idsB2]
    rw [e1, e2] at h
    obtain ⟨h1, h2⟩ := List.append_inj h (by rw [a.2, b.2])
    obtain ⟨h3, h4⟩ := ids_inj l m (by simpa using hl) h2
    exact ⟨by rw [Subtype.ext h1, h3], h4⟩
theorem es_inj : ∀ (l m : List (List UInt8)) {x y : List UInt8}, (∀ b ∈ l, b.length ≤ 4096) → (∀ b ∈ m, b.length ≤ 4096) → l.length = m.length → esB l ++ x = esB m ++ y → l = m ∧ x = y
  | [], [], _, _, _, _, _, h => ⟨rfl, h⟩
  | [], _ :: _, _, _, _, _, hl, _ => by simp at hl
  | _ :: _, [], _, _, _, _, hl, _ => by simp at hl
  | a :: l, b :: m, x, y, ha, hb, hl, h => by
    have e1 : esB (a :: l) ++ x = numB a.length ++ (a ++ (esB l ++ x)) := by simp [esB]
    have e2 : esB (b :: m) ++ y = numB b.length ++ (b ++ (esB m ++ y)) := by simp [esB]
    rw [e1, e2] at h
    have l1 := ha a (List.mem_cons_self ..)
    have l2 := hb b (List.mem_cons_self ..)
    obtain ⟨h0, h1⟩ := numB_inj (by omega) (by omega) h
    obtain ⟨h1, h2⟩ := List.append_inj h1 h0
    obtain ⟨h3, h4⟩ := es_inj l m (fun z hz => ha z (List.mem_cons_of_mem _ hz)) (fun z hz => hb z (List.mem_cons_of_mem _ hz)) (by simpa using hl) h2
    exact ⟨by rw [h1, h3], h4⟩
theorem right_cases {m : DMs} (h : rightM m = true) : (m.k = 1 ∧ m.es = []) ∨ ((m.k = 2 ∧ m.es = [] ∨ m.k = 3 ∧ m.ids = []) ∧ m.r = false ∧ m.f = zF) := by
  unfold rightM at h
  by_cases h1 : m.k = 1
  · rw [if_pos h1] at h
    simp only [Bool.and_eq_true, decide_eq_true_eq] at h
    exact .inl ⟨h1, h.2⟩
  · rw [if_neg h1] at h
    have oth : (!otherM m) = true → m.r = false ∧ m.f = zF := fun ho => by
      simp only [otherM, Bool.not_eq_true', Bool.or_eq_false_iff, Bool.not_eq_false', decide_eq_true_eq] at ho
      exact ho
    by_cases h2 : m.k = 2
    · rw [if_pos h2] at h
      rw [Bool.and_eq_true, Bool.and_eq_true, Bool.and_eq_true, decide_eq_true_eq] at h
      exact .inr ⟨.inl ⟨h2, h.2⟩, oth h.1.1.1⟩
    · rw [if_neg h2] at h
      by_cases h3 : m.k = 3
      · rw [if_pos h3] at h
        rw [Bool.and_eq_true, Bool.and_eq_true, Bool.and_eq_true, decide_eq_true_eq] at h
        exact .inr ⟨.inr ⟨h3, h.1.1.2⟩, oth h.1.1.1⟩
      · rw [if_neg h3] at h; cases h
theorem bytes_inj {a b : DMs} (ha : rightM a = true) (hb : rightM b = true) (h : bytesM a = bytesM b) : a = b := by
  obtain ⟨a1, a2, a3⟩ := right_es ha
  obtain ⟨b1, b2, b3⟩ := right_es hb
  have hk : a.k = b.k := by
    have h0 : (bytesM a).head? = (bytesM b).head? := by rw [h]
    have e : ∀ m : DMs, (bytesM m).head? = some (b8 m.k.toNat) := fun m => by simp [bytesM, headB]
    rw [e, e] at h0
    injection h0 with h0
    rcases right_kind ha with x | x | x <;> rcases right_kind hb with y | y | y <;> rw [x, y] at h0 ⊢ <;> first | rfl | (exfalso; revert h0; decide)
  have tail : ∀ m : DMs, bytesM m = headB m ++ (numB (m.ids.length + m.es.length) ++ (idsB2 m.ids ++ (esB m.es ++ []))) := fun m => by simp [bytesM]
  rw [tail, tail] at h
  have hh : a.r = b.r ∧ a.f = b.f ∧ numB (a.ids.length + a.es.length) ++ (idsB2 a.ids ++ (esB a.es ++ [])) = numB (b.ids.length + b.es.length) ++ (idsB2 b.ids ++ (esB b.es ++ [])) := by
    unfold headB at h
    by_cases h1 : a.k = 1
    · rw [if_pos h1, if_pos (hk.symm.trans h1)] at h
      simp only [List.cons_append, List.cons.injEq] at h
      obtain ⟨_, h2, h3⟩ := h
      obtain ⟨h4, h5⟩ := List.append_inj h3 (by rw [a.f.2, b.f.2])
      refine ⟨?_, Subtype.ext h4, h5⟩
      revert h2
      cases a.r <;> cases b.r <;> simp
    · rw [if_neg h1, if_neg (fun e => h1 (hk.trans e))] at h
      simp only [List.cons_append, List.nil_append, List.cons.injEq] at h
      obtain ⟨_, x1, x2⟩ := (right_cases ha).resolve_left fun x => h1 x.1
      obtain ⟨_, y1, y2⟩ := (right_cases hb).resolve_left fun x => h1 (hk.trans x.1)
      exact ⟨by rw [x1, y1], by rw [x2, y2], h.2⟩
  obtain ⟨hr, hf, h⟩ := hh
  obtain ⟨hn, h⟩ := numB_inj (by omega) (by omega) h
  have hlen : a.ids.length = b.ids.length ∧ a.es.length = b.es.length := by
    rcases right_cases ha with ⟨x1, x2⟩ | ⟨⟨x1, x2⟩ | ⟨x1, x2⟩, _⟩ <;> rcases right_cases hb with ⟨y1, y2⟩ | ⟨⟨y1, y2⟩ | ⟨y1, y2⟩, _⟩ <;> first | (exfalso; rw [x1, y1] at hk; revert hk; decide) | (rw [x2, y2] at hn ⊢; simp at hn ⊢; omega)
  obtain ⟨hi, h⟩ := ids_inj _ _ hlen.1 h
  obtain ⟨he, _⟩ := es_inj _ _ (fun z hz => (a3 z hz).2) (fun z hz => (b3 z hz).2) hlen.2 h
  obtain ⟨k1, r1, f1, i1, e1⟩ := a
  obtain ⟨k2, r2, f2, i2, e2⟩ := b
  simp only at hk hr hf hi he
  rw [hk, hr, hf, hi, he]
theorem bytes_len {m : DMs} (h : rightM m = true) : (bytesM m).length ≤ 100000 := by
  obtain ⟨a1, a2, a3⟩ := right_es h
  have h1 : (headB m).length ≤ 100 := by
    rw [headB]
    split
    · simp [m.f.2]
    · simp
  have h2 := numB_length_le (m.ids.length + m.es.length) (by omega)
  have h3 := idsB2_len m.ids
  have h4 := esB_len m.es fun b hb => (a3 b hb).2
  simp only [bytesM, List.length_append]
  omega
section
set_option maxRecDepth 200000
set_option maxHeartbeats 8000000
theorem apart_d (a b : DMs) (ha0 : a.es.length ≤ 140737488355328) (ha : ∀ x ∈ a.es, x.length ≤ 140737488355328) (hb0 : b.es.length ≤ 140737488355328) (hb : ∀ x ∈ b.es, x.length ≤ 140737488355328) : DPure Try.prog 3 [encMs a, encMs b] (.v (.bool true)) := by
  refine dpure_of_dwp mixed Try.func3 rfl (fun _ _ => by kernel_rfl) (rs := [.tmp 4]) rfl (by kernel_rfl) trivial (fun S hS => ?_)
  (simp (disch := first | decide | omega | (simp only [nx]; first | done | omega)) only [go_sem]; (repeat with_reducible refine aI ?_))
  refine DCalls.of_pure (great25_d a ha0 ha) ?_
  cases hga : greatM a with
  | true =>
    (simp (disch := first | decide | omega | (simp only [nx]; first | done | omega)) only [go_sem]; (repeat with_reducible refine aI ?_))
    refine DCalls.of_pure awake25_d ?_
    (simp (disch := first | decide | omega | (simp only [nx]; first | done | omega)) only [go_sem]; (repeat with_reducible refine aI ?_))
    refine ⟨?_, (by (repeat' first | assumption | exact St.Sub.refl _ | exact RowOk.sub (by assumption) (by assumption) | refine St.Sub.trans ?_ (RowOk.sub (by assumption) (by assumption)) | refine St.Sub.add ?_ ?_ _ | refine St.Sub.set ?_ ?_ ?_ _ | refine St.Sub.keep ?_ ?_ | refine St.WF.leave ?_ _ | refine St.WF.add ?_ _ | refine St.WF.set ?_ ?_ _ | refine St.WF.grow ?_ _ _ _ | refine St.WF.keep ?_ ?_ | (first | omega | (simp only [RowOk.lo, nx]; first | done | omega))))⟩
    rfl
  | false =>
    (simp (disch := first | decide | omega | (simp only [nx]; first | done | omega)) only [go_sem]; (repeat with_reducible refine aI ?_))
    refine DCalls.of_pure (great25_d b hb0 hb) ?_
    cases hgb : greatM b with
    | true =>
      (simp (disch := first | decide | omega | (simp only [nx]; first | done | omega)) only [go_sem]; (repeat with_reducible refine aI ?_))
      refine DCalls.of_pure awake25_d ?_
      (simp (disch := first | decide | omega | (simp only [nx]; first | done | omega)) only [go_sem]; (repeat with_reducible refine aI ?_))
      refine ⟨?_, (by (repeat' first | assumption | exact St.Sub.refl _ | exact RowOk.sub (by assumption) (by assumption) | refine St.Sub.trans ?_ (RowOk.sub (by assumption) (by assumption)) | refine St.Sub.add ?_ ?_ _ | refine St.Sub.set ?_ ?_ ?_ _ | refine St.Sub.keep ?_ ?_ | refine St.WF.leave ?_ _ | refine St.WF.add ?_ _ | refine St.WF.set ?_ ?_ _ | refine St.WF.grow ?_ _ _ _ | refine St.WF.keep ?_ ?_ | (first | omega | (simp only [RowOk.lo, nx]; first | done | omega))))⟩
      rfl
    | false =>
      obtain ⟨a1, a2, a3, a4⟩ := great_no hga
      obtain ⟨b1, b2, b3, b4⟩ := great_no hgb
      (simp (disch := first | decide | omega | (simp only [nx]; first | done | omega)) only [go_sem]; (repeat with_reducible refine aI ?_))
      refine DCalls.of_pure (encode25_d a (by omega) (by omega)) ?_
      cases hra : rightM a with
      | false =>
        rw [encRes25, if_neg (by rw [hra]; simp)]
        (simp (disch := first | decide | omega | (simp only [nx]; first | done | omega)) only [go_sem]; (repeat with_reducible refine aI ?_))
        refine DCalls.of_pure (encode25_d b (by omega) (by omega)) ?_
        unfold encRes25
        by_cases hrb : rightM b = true
        · rw [if_pos hrb]
          (simp (disch := first | decide | omega | (simp only [nx]; first | done | omega)) only [go_sem]; (repeat with_reducible refine aI ?_))
          refine DCalls.of_pure awake25_d ?_
          (simp (disch := first | decide | omega | (simp only [nx]; first | done | omega)) only [go_sem]; (repeat with_reducible refine aI ?_))
          refine ⟨?_, (by (repeat' first | assumption | exact St.Sub.refl _ | exact RowOk.sub (by assumption) (by assumption) | refine St.Sub.trans ?_ (RowOk.sub (by assumption) (by assumption)) | refine St.Sub.add ?_ ?_ _ | refine St.Sub.set ?_ ?_ ?_ _ | refine St.Sub.keep ?_ ?_ | refine St.WF.leave ?_ _ | refine St.WF.add ?_ _ | refine St.WF.set ?_ ?_ _ | refine St.WF.grow ?_ _ _ _ | refine St.WF.keep ?_ ?_ | (first | omega | (simp only [RowOk.lo, nx]; first | done | omega))))⟩
          rfl
        · rw [if_neg hrb]
          (simp (disch := first | decide | omega | (simp only [nx]; first | done | omega)) only [go_sem]; (repeat with_reducible refine aI ?_))
          refine DCalls.of_pure awake25_d ?_
          (simp (disch := first | decide | omega | (simp only [nx]; first | done | omega)) only [go_sem]; (repeat with_reducible refine aI ?_))
          refine ⟨?_, (by (repeat' first | assumption | exact St.Sub.refl _ | exact RowOk.sub (by assumption) (by assumption) | refine St.Sub.trans ?_ (RowOk.sub (by assumption) (by assumption)) | refine St.Sub.add ?_ ?_ _ | refine St.Sub.set ?_ ?_ ?_ _ | refine St.Sub.keep ?_ ?_ | refine St.WF.leave ?_ _ | refine St.WF.add ?_ _ | refine St.WF.set ?_ ?_ _ | refine St.WF.grow ?_ _ _ _ | refine St.WF.keep ?_ ?_ | (first | omega | (simp only [RowOk.lo, nx]; first | done | omega))))⟩
          rfl
      | true =>
        rw [encRes25, if_pos hra]
        (simp (disch := first | decide | omega | (simp only [nx]; first | done | omega)) only [go_sem]; (repeat with_reducible refine aI ?_))
        refine DCalls.of_pure (encode25_d b (by omega) (by omega)) ?_
        unfold encRes25
        by_cases hrb : rightM b = true
        · rw [if_pos hrb]
          (simp (disch := first | decide | omega | (simp only [nx]; first | done | omega)) only [go_sem, bnil_ne]; (repeat with_reducible refine aI ?_))
          have hla := bytes_len hra
          have hlb := bytes_len hrb
          refine ddraw_mk 11 (by kernel_rfl) ?_
          (simp (disch := first | decide | omega | (simp only [nx]; first | done | omega)) only [go_sem]; (repeat with_reducible refine aI ?_))
          refine dqgo_mk (bytesEq_d .no .no (bytesM a) (bytesM b) (by omega) (by omega)) ?_
          (simp (disch := first | decide | omega | (simp only [nx]; first | done | omega)) only [go_sem]; (repeat with_reducible refine aI ?_))
          refine dqgo_mk (same25_d a b (by omega) (by omega)) ?_
          have he : (decide (bytesM a = bytesM b) == decide (a = b)) = true := by
            by_cases h : a = b
            · subst h; simp
            · rw [decide_eq_false h, decide_eq_false fun e => h (bytes_inj hra hrb e)]; rfl
          (simp (disch := first | decide | omega | (simp only [nx]; first | done | omega)) only [go_sem, he, bin_beqW]; (repeat with_reducible refine aI ?_))
          refine dqgo_mk awake25_d ?_
          (simp (disch := first | decide | omega | (simp only [nx]; first | done | omega)) only [go_sem]; (repeat with_reducible refine aI ?_))
          refine ⟨?_, (by (repeat' first | assumption | exact St.Sub.refl _ | exact RowOk.sub (by assumption) (by assumption) | refine St.Sub.trans ?_ (RowOk.sub (by assumption) (by assumption)) | refine St.Sub.add ?_ ?_ _ | refine St.Sub.set ?_ ?_ ?_ _ | refine St.Sub.keep ?_ ?_ | refine St.WF.leave ?_ _ | refine St.WF.add ?_ _ | refine St.WF.set ?_ ?_ _ | refine St.WF.grow ?_ _ _ _ | refine St.WF.keep ?_ ?_ | (first | omega | (simp only [RowOk.lo, nx]; first | done | omega))))⟩
          rfl
        · rw [if_neg hrb]
          (simp (disch := first | decide | omega | (simp only [nx]; first | done | omega)) only [go_sem, bnil_ne]; (repeat with_reducible refine aI ?_))
          refine DCalls.of_pure awake25_d ?_
          (simp (disch := first | decide | omega | (simp only [nx]; first | done | omega)) only [go_sem]; (repeat with_reducible refine aI ?_))
          refine ⟨?_, (by (repeat' first | assumption | exact St.Sub.refl _ | exact RowOk.sub (by assumption) (by assumption) | refine St.Sub.trans ?_ (RowOk.sub (by assumption) (by assumption)) | refine St.Sub.add ?_ ?_ _ | refine St.Sub.set ?_ ?_ ?_ _ | refine St.Sub.keep ?_ ?_ | refine St.WF.leave ?_ _ | refine St.WF.add ?_ _ | refine St.WF.set ?_ ?_ _ | refine St.WF.grow ?_ _ _ _ | refine St.WF.keep ?_ ?_ | (first | omega | (simp only [RowOk.lo, nx]; first | done | omega))))⟩
          rfl
end
end Go.Proofs.Ytonncfminojejaa

namespace Go.Proofs.Ytonncfminojejaa
open Go.ChangeShapes Go.WideShapes Go.ChangeAt Go.RowKit
theorem messageApart_own : ownKnob Try.prog.godebug = none := by kernel_rfl
theorem messageApart_laidOut : laidOutB Try.prog = true := by kernel_rfl
set_option maxRecDepth 100000 in
theorem messageApart_lifted (os : Os) (started : os.Started) (H : Type) (enc : TypeId × Value → H) :
    ReturnsInHanded {} Try.checked os 3 .any (Rows.messageApartSpec.pre6 enc Try.prog Try.f3 Rows.messageApartRow.domain false) (Rows.messageApartSpec.post enc Try.prog Try.f3 false true false false) := by
  refine returnsInHanded_of_change_sized (C := Try.checked) messageApart_own started (by kernel_rfl) Try.func3
    (ChangeSpec.witness6 (enc := enc) (C := Try.checked) false ⟨#[], #[.agg (.int .i64 0 :: .bool false :: (zF.1.map bV ++ [.slice none 0 0, .slice none 0 0])).toArray, .agg (.int .i64 0 :: .bool false :: (zF.1.map bV ++ [.slice none 0 0, .slice none 0 0])).toArray], []⟩ 8 (by kernel_rfl) (by kernel_rfl) (by kernel_rfl) (by kernel_rfl)) ?_
  intro W base args ds gs before hval0 hW hcnd hsz0 _
  have hval : ∀ (j : Nat) t v, Try.f3.params[j]? = some t → args[j]? = some v → Value.okWide Try.prog W .any base t v := hval0
  have hsz : (DataW.weightsEach Try.prog (Try.f3.params.toList ++ Rows.messageApartSpec.plain.varTypes Try.prog) (ds ++ gs)).all (· ≤ reachBytes) = true := hsz0
  have hW' := hW
  obtain ⟨p, q, hA0, hV, rfl, hfz, hnd⟩ := hW
  have hA : DataW.TrodAll enc Try.prog W 0 (fun _ => true) true Try.f3.params.toList args.toList ds p := hA0
  obtain ⟨rfl, rfl⟩ := trodVars_none hV
  rw [Try.params3] at hA hval hsz
  have hA1 := hA
  obtain ⟨v0, vs0, d0, ds0, p0, q0, hargs, rfl, rfl, h0, r0⟩ := trodAll_cons hA
  obtain ⟨v1, vs1, d1, ds1, p1, q1, rfl, rfl, rfl, h1, r1⟩ := trodAll_cons r0
  obtain ⟨rfl, rfl, rfl⟩ := trodAll_nil r1
  obtain rfl : args = #[v0, v1] := by cases args; simp_all
  have z0 : Sized Try.prog 26 d0 := sized_of_each (j := 0) hsz rfl rfl
  have k0 : Value.okWide Try.prog W .any base 26 v0 := hval 0 _ _ rfl rfl
  have z1 : Sized Try.prog 26 d1 := sized_of_each (j := 1) hsz rfl rfl
  have k1 : Value.okWide Try.prog W .any base 26 v1 := hval 1 _ _ rfl rfl
  clear hA0 hval0 hsz hsz0 hval
  have key : Calls Try.prog 3 #[v0, v1] W (Gives (.bool true) W) := by
    obtain ⟨a, as_, rfl, ⟨ha1, ha2⟩, ha⟩ := open_ms h0 z0 k0
    obtain ⟨b, bs_, rfl, ⟨hb1, hb2⟩, hb⟩ := open_ms h1 z1 k1
    exact gives_of_dpure (vs := [.agg as_.toArray, .agg bs_.toArray]) (apart_d a b (by omega) (fun x hx => by have := ha2 x hx; omega) (by omega) (fun x hx => by have := hb2 x hx; omega)) (by simp only [RepL]; exact ⟨_, _, rfl, ha _ _ fix_nil, _, _, rfl, hb _ _ fix_nil, rfl⟩)
  refine key.mono fun e W' ⟨he, bel⟩ => ?_
  subst he
  exact ⟨_, rfl, _, _, _, [], _, [], hW', trodAll_mk1 (shut_bool Try.underlying4 _), trodAll_below messageApart_laidOut bel (by kernel_rfl) hA1, rfl, bel.frame _, fun h => by cases h⟩

theorem messageApart_holds : Rows.MessageApartSaid :=
  OpenClaim.holds_of_wide 3 Try.f3 rfl rfl rfl rfl rfl rfl rfl ⟨rfl, rfl, rfl, rfl, rfl⟩ rfl rfl rfl rfl rfl (by kernel_rfl) Try.func3 (by kernel_rfl)
    (of_decide_eq_true (by kernel_rfl)) (by unfold Func.isWrapper; first | (rw [if_pos (by decide +kernel)]; kernel_rfl) | (rw [if_neg (by decide +kernel)]; exact ⟨rfl, rfl⟩))
    (fun os started H enc _ => messageApart_lifted os started H enc)
#print axioms messageApart_holds
end Go.Proofs.Ytonncfminojejaa
