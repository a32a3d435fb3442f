/- Texts of a proof, part 4. Conditions: none. -/
import Derived.Test.YtjjhjhjphhpeiaaL3
set_option linter.unusedVariables false
set_option linter.unusedSimpArgs false
namespace Go.Proofs.Ytjjhjhjphhpeiaa
open Go.RowKit

def drawOk (l : List Oper) (n : Nat) : Bool := Region.lexB .any (l.take n).toArray && (n == l.length || heldTailB l n)
def ddraw (P : Program) (l : List Oper) (Q : Fm → St → Prop) (f : Fm) (S : St) : Prop :=
  (∃ n, drawOk l n = true ∧ dhead P (l.take n).toArray S (fun f' S' => dops P l.toArray Q (l.drop n) f' S') (l.take n) f none) ∨
  ∃ (Zs : St → Prop) (n : Nat), Zs S ∧ (n == l.length || heldTailB l n) = true ∧ sAny P .any (l.take n).toArray Zs (fun f' S' => dops P l.toArray Q (l.drop n) f' S') (l.take n).toArray.size (Array.replicate (l.take n).toArray.size false) f S

inductive DX where
  | normal
  | exit (i : Nat)
  | ret
def DX.up : DX → Exit
  | .normal => .normal
  | .exit i => .exit i
  | .ret => .ret
abbrev DQ := DX → Fm → St → Prop
def DQ.then (k : Fm → St → Prop) (Q : DQ) : DQ
  | .normal, f, S => k f S
  | .exit i, f, S => Q (.exit i) f S
  | .ret, f, S => Q .ret f S
def DQ.block (id : Nat) (Q : DQ) : DQ
  | .normal, f, S => Q .normal f S
  | .exit i, f, S => bif Nat.beq i id then Q .normal f S else Q (.exit i) f S
  | .ret, f, S => Q .ret f S
/-- Names of the first that the second still has. -/
structure St.Sub (S S' : St) : Prop where
  next : S.next ≤ S'.next
  ob : ∀ k o, S.ob k = some o → S'.ob k = some o
/-- A loop: what holds at each round's head, and a measure. -/
def DLoop (body : DQ → Fm → St → Prop) (Q : DQ) (f : Fm) (S : St) : Prop := ∃ (I : Fm → St → Prop) (μ : Fm → St → Nat), I f S ∧ ∀ g T, I g T →
  body (DQ.then (fun f' S' => ∃ S'' : St, (S''.next = S'.next ∧ ∀ k o, S''.ob k = some o → S'.ob k = some o) ∧ I f' S'' ∧ μ f' S'' < μ g T) Q) g T
def dwp (P : Program) : Code → DQ → Fm → St → Prop
  | .skip, Q, f, S => Q .normal f S
  | .label _, Q, f, S => Q .normal f S
  | .region _ ops false, Q, f, S => dops P ops (Q .normal) ops.toList f S
  | .region _ ops true, Q, f, S => ddraw P ops.toList (Q .normal) f S
  | .seq x y, Q, f, S => dwp P x (DQ.then (fun f S => dwp P y Q f S) Q) f S
  | .cond c x y, Q, f, S => match ev f c with
    | .v (.bool b) => (b = true → dwp P x Q f S) ∧ (b = false → dwp P y Q f S)
    | _ => False
  | .block id c, Q, f, S => dwp P c (DQ.block id Q) f S
  | .loop c, Q, f, S => DLoop (fun Q f S => dwp P c Q f S) Q f S
  | .exit id, Q, f, S => Q (.exit id) f S
  | .ret, Q, f, S => Q .ret f S
  | _, _, _, _ => False
def codeOk (n : Nat) : Code → Bool
  | .region _ ops _ => ops.all fun o => operOk n ops o
  | .seq x y => codeOk n x && codeOk n y
  | .cond c x y => opnOk n c && codeOk n x && codeOk n y
  | .block _ c => codeOk n c
  | .loop c => codeOk n c
  | _ => true

section
variable {P : Program} {base : Nat} {S : St} {η : Names} {w : World} {f : Fm} {a : Act}
theorem goes_sub (h : Mem P base S η w) {S' : St} (hn : S'.next = S.next) (hs : ∀ k o, S'.ob k = some o → S.ob k = some o) : Goes P base S η w S' η w := by
  have subS : ∀ k, (S'.ob k).isSome = true → (S.ob k).isSome = true := fun k hk => by
    obtain ⟨o, ho⟩ := Option.isSome_iff_exists.1 hk
    rw [hs k o ho]; rfl
  have K : Keep (fun _ => True) w η (Fix P S η) w η (Fix P S' η) := ⟨Nat.le_refl _, fun b i _ hx => ⟨fun k o hk hk' => hx k o hk (hs k o hk'), rfl⟩, fun _ _ _ hx => hx, fun _ c _ hx => ⟨c, hx, rfl⟩⟩
  refine ⟨⟨h.base_, fun k hk => h.dead k (by omega), fun k hk => ?_, fun k t cs hk => h.live k t cs (hs _ _ hk), fun k k' b h1 h2 h3 h4 => h.inj k k' b h1 h2 (subS k h3) (subS k' h4), h.in_, fun k t cs b h1 h2 => ?_, fun k e n b h1 h2 => h.row k e n b (hs _ _ h1) h2, h.glob⟩, K, Below.refl _ _⟩
  · cases ho : S'.ob k with
    | none => rfl
    | some o => have := hs k o ho; rw [h.fresh k (by omega)] at this; cases this
  · obtain ⟨vs, k1, k2, k3⟩ := h.box k t cs b (hs _ _ h1) h2
    exact ⟨vs, k1, RepL.keep K (allL_true _) k2, k3⟩
theorem operOk_take {n m : Nat} {l : List Oper} {o : Oper} (h : operOk n l.toArray o = true) : operOk n (l.take m).toArray o = true := by
  simp only [operOk, Bool.and_eq_true] at *
  refine ⟨h.1, ?_⟩
  have h2 := h.2
  cases hg : o.guard with
  | none => rfl
  | some p =>
    obtain ⟨j, want⟩ := p
    rw [hg] at h2
    simp only at h2 ⊢
    by_cases hj : j < m
    · rw [take_get hj]; exact h2
    · rw [Array.getElem?_eq_none (by simp; omega)]; rfl
theorem ddraw_sound (hm : P.follows .mixedOrders = true) {id : Nat} {l : List Oper} {Q : Fm → St → Prop} {Q' : Exit → Act → World → Prop} (hok : ∀ o ∈ l, operOk a.tmps.size l.toArray o = true) (hM : Mem P base S η w) (hf : RepF P w η (Fix P S η) f a) (h : ddraw P l Q f S)
    (hq : ∀ f' S' η' w' a', Q f' S' → Goes P base S η w S' η' w' → RepF P w' η' (Fix P S' η') f' a' → a'.tmps.size = a.tmps.size → a'.defers = a.defers → Q' .normal a' w') : (Code.region id l.toArray true).wp P Q' a w := by
  have hokn : ∀ n, ∀ (j : Nat) (o : Oper), (l.take n).toArray[j]? = some o → operOk a.tmps.size (l.take n).toArray o = true := fun n j o ho => operOk_take (hok o (by
    have := List.mem_of_getElem? (show (l.take n)[j]? = some o by simpa using ho)
    exact List.mem_of_mem_take this))
  have G0 := goes_drew hM
  rcases h with ⟨n, hn, hh⟩ | ⟨Zs, n, hZ, hn, hh⟩
  rotate_left
  · simp only [Bool.or_eq_true, beq_iff_eq] at hn
    rcases hn with hn | hn
    · have hl : l.take n = l := by rw [hn, List.take_length]
      have hd : l.drop n = [] := by rw [hn, List.drop_length]
      have hokl := hokn n
      rw [hl] at hh hokl
      refine wp_region_any hm (sAny_sound (w := w.drew) hokl l.toArray.size _ hZ G0.mem (G0.repF hf) rfl hh fun f' S' η' w' a' g1 g2 g3 g4 g5 => ?_)
      rw [hd] at g1
      exact hq f' S' η' w' a' g1 (G0.trans g2) g3 g4 g5
    · refine wp_region_any_tail n hm hn ?_
      have := sAny_sound (Q' := Exit.then (fun a w => wpList P l.toArray Q' (l.drop n) a w) Q') (hokn n) (l.take n).toArray.size (Array.replicate (l.take n).toArray.size false) hZ G0.mem (G0.repF hf) rfl hh fun f' S1 η' w' a' g1 g2 g3 g4 g5 => by
        refine dops_sound (l.drop n) (fun o ho => by rw [g4]; exact hok o (List.mem_of_mem_drop ho)) g2.mem g3 g1 fun f'' S'' η'' w'' a'' k1 k2 k3 k4 k5 => ?_
        exact hq f'' S'' η'' w'' a'' k1 ((G0.trans g2).trans k2) k3 (by rw [k4, g4]) (by rw [k5, g5])
      exact this
  simp only [drawOk, Bool.and_eq_true, Bool.or_eq_true, beq_iff_eq] at hn
  obtain ⟨hlex, hn⟩ := hn
  simp only [Region.lexB, Bool.and_eq_true] at hlex
  have hany := hAny_lex (l.take n) 0 (Array.replicate (l.take n).toArray.size false) f none (by simp) (by simpa using hlex.2) hh
  have hok' := hokn n
  rcases hn with hn | hn
  · subst hn
    rw [List.take_length] at hany hok'
    refine wp_region_any hm (wpAny_of_head (u := none) (w := w.drew) hM.fresh hok' l.toArray.size _ G0.mem (G0.repF hf) rfl (by simpa using hany) fun f' u' η' w' a' g1 g2 g3 g4 g5 => ?_)
    have g1' : Q f' (after S u') := by simpa [dops] using g1
    exact hq f' (after S u') η' w' a' g1' (G0.trans g2) g3 g4 g5
  · refine wp_region_any_tail n hm hn ?_
    have := wpAny_of_head (u := none) (Q' := Exit.then (fun a w => wpList P l.toArray Q' (l.drop n) a w) Q') hM.fresh hok' (l.take n).toArray.size (Array.replicate (l.take n).toArray.size false) G0.mem (G0.repF hf) rfl (by simpa using hany) fun f' u' η' w' a' g1 g2 g3 g4 g5 => by
      refine dops_sound (l.drop n) (fun o ho => by rw [g4]; exact hok o (List.mem_of_mem_drop ho)) g2.mem g3 g1 fun f'' S'' η'' w'' a'' k1 k2 k3 k4 k5 => ?_
      exact hq f'' S'' η'' w'' a'' k1 ((G0.trans g2).trans k2) k3 (by rw [k4, g4]) (by rw [k5, g5])
    exact this
/-- The walk over trees is a walk. -/
theorem dwp_sound (hm : P.follows .mixedOrders = true) : ∀ (c : Code) {Q : DQ} {S : St} {η : Names} {w : World} {f : Fm} {a : Act} {Q' : Exit → Act → World → Prop}, codeOk a.tmps.size c = true → Mem P base S η w → RepF P w η (Fix P S η) f a → dwp P c Q f S →
    (∀ e f' S' η' w' a', Q e f' S' → Goes P base S η w S' η' w' → RepF P w' η' (Fix P S' η') f' a' → a'.tmps.size = a.tmps.size → a'.defers = a.defers → Q' e.up a' w') → c.wp P Q' a w := by
  intro c
  induction c with
  | skip => intro Q S η w f a Q' _ hM hf h hq; exact wp_skip (hq .normal f S η w a h (Goes.refl hM) hf rfl rfl)
  | label l => intro Q S η w f a Q' _ hM hf h hq; exact wp_label (hq .normal f S η w a h (Goes.refl hM) hf rfl rfl)
  | exit id => intro Q S η w f a Q' _ hM hf h hq; exact wp_exit (hq (.exit id) f S η w a h (Goes.refl hM) hf rfl rfl)
  | ret => intro Q S η w f a Q' _ hM hf h hq; exact wp_ret (hq .ret f S η w a h (Goes.refl hM) hf rfl rfl)
  | region id ops draw =>
    intro Q S η w f a Q' hok hM hf h hq
    have hok' : ∀ o ∈ ops.toList, operOk a.tmps.size ops o = true := fun o ho => Array.all_eq_true_iff_forall_mem.1 hok o (by simpa using ho)
    cases draw with
    | false => exact wp_region_list (dops_sound ops.toList hok' hM hf h fun f' S' η' w' a' k1 k2 k3 k4 k5 => hq .normal f' S' η' w' a' k1 k2 k3 k4 k5)
    | true => exact ddraw_sound (l := ops.toList) hm hok' hM hf h fun f' S' η' w' a' k1 k2 k3 k4 k5 => hq .normal f' S' η' w' a' k1 k2 k3 k4 k5
  | seq x y ihx ihy =>
    intro Q S η w f a Q' hok hM hf h hq
    simp only [codeOk, Bool.and_eq_true] at hok
    refine wp_seq (ihx hok.1 hM hf h fun e f' S' η' w' a' k1 k2 k3 k4 k5 => ?_)
    cases e with
    | normal =>
      exact ihy (by rw [k4]; exact hok.2) k2.mem k3 k1 fun e f'' S'' η'' w'' a'' g1 g2 g3 g4 g5 => hq e f'' S'' η'' w'' a'' g1 (k2.trans g2) g3 (by rw [g4, k4]) (by rw [g5, k5])
    | exit i => exact hq (.exit i) f' S' η' w' a' k1 k2 k3 k4 k5
    | ret => exact hq .ret f' S' η' w' a' k1 k2 k3 k4 k5
  | cond g x y ihx ihy =>
    intro Q S η w f a Q' hok hM hf h hq
    simp only [codeOk, Bool.and_eq_true] at hok
    have hg := hf.ev hok.1.1
    unfold dwp at h
    split at h
    · rename_i b hb
      rw [hb] at hg
      simp only [Rep] at hg
      refine wp_cond (t := b) hg ?_
      cases b with
      | true => exact ihx hok.1.2 hM hf (h.1 rfl) hq
      | false => exact ihy hok.2 hM hf (h.2 rfl) hq
    · exact h.elim
  | block id c ih =>
    intro Q S η w f a Q' hok hM hf h hq
    refine wp_block (ih hok hM hf h fun e f' S' η' w' a' k1 k2 k3 k4 k5 => ?_)
    cases e with
    | normal => exact hq .normal f' S' η' w' a' k1 k2 k3 k4 k5
    | ret => exact hq .ret f' S' η' w' a' k1 k2 k3 k4 k5
    | exit i =>
      simp only [DQ.block] at k1
      simp only [DX.up, Exit.inBlock]
      cases hb : Nat.beq i id with
      | true =>
        rw [if_pos (Nat.eq_of_beq_eq_true hb)]
        rw [hb] at k1
        exact hq .normal f' S' η' w' a' k1 k2 k3 k4 k5
      | false =>
        rw [if_neg (by intro e; rw [e, Nat.beq_refl] at hb; cases hb)]
        rw [hb] at k1
        exact hq (.exit i) f' S' η' w' a' k1 k2 k3 k4 k5
  | loop c ih =>
    intro Q S η w f a Q' hok hM hf h hq
    unfold dwp at h
    obtain ⟨I, μ, h0, hround⟩ := h
    intro b k cs
    have key : ∀ n (g : Fm) (T : St) (η1 : Names) (w1 : World) (a1 : Act), μ g T = n → I g T → Goes P base S η w T η1 w1 → RepF P w1 η1 (Fix P T η1) g a1 → a1.tmps.size = a.tmps.size → a1.defers = a.defers →
        ∃ e a' w', Q' e a' w' ∧ Arrives P (lone (b.at a1 (.code c :: .inLoop c :: k)) cs w1) b k cs e a' w' := by
      intro n
      induction n using Nat.strongRecOn with
      | _ n ihn =>
        intro g T η1 w1 a1 hn hI hG hF hs hd
        have hr := hround g T hI
        have := ih (Q' := fun e a' w' => (e = .normal ∧ ∃ g' T' η', I g' T' ∧ μ g' T' < μ g T ∧ Goes P base S η w T' η' w' ∧ RepF P w' η' (Fix P T' η') g' a' ∧ a'.tmps.size = a.tmps.size ∧ a'.defers = a.defers) ∨ (e ≠ .normal ∧ Q' e a' w')) (by rw [hs]; exact hok) hG.mem hF hr (fun e f' S' η' w' a' k1 k2 k3 k4 k5 => by
          cases e with
          | normal =>
            obtain ⟨S'', ⟨s1, s2⟩, s3, s4⟩ := k1
            have G2 := goes_sub k2.mem s1 s2
            exact .inl ⟨rfl, f', S'', η', s3, s4, (hG.trans k2).trans G2, G2.repF k3, by rw [k4, hs], by rw [k5, hd]⟩
          | exit i => exact .inr ⟨by simp [DX.up], hq (.exit i) f' S' η' w' a' k1 (hG.trans k2) k3 (by rw [k4, hs]) (by rw [k5, hd])⟩
          | ret => exact .inr ⟨by simp [DX.up], hq .ret f' S' η' w' a' k1 (hG.trans k2) k3 (by rw [k4, hs]) (by rw [k5, hd])⟩)
        obtain ⟨e, a₁, w₁, hq', harr⟩ := this b (.inLoop c :: k) cs
        rcases hq' with ⟨rfl, g', T', η', j1, j2, j3, j4, j5, j6⟩ | ⟨hne, hq'⟩
        · obtain ⟨e₂, a₂, w₂, hq₂, harr₂⟩ := ihn (μ g' T') (hn ▸ j2) g' T' η' w₁ a₁ rfl j1 j3 j4 j5 j6
          exact ⟨e₂, a₂, w₂, hq₂, .of_steps (Steps.trans harr (.one step_inLoop)) harr₂⟩
        · cases e with
          | normal => exact absurd rfl hne
          | exit id => exact ⟨_, a₁, w₁, hq', .pass (x := .inLoop c) rfl (fun _ _ => .inl (by simp)) harr⟩
          | goto l => exact ⟨_, a₁, w₁, hq', .pass (x := .inLoop c) rfl (fun _ _ => .inl (by simp)) harr⟩
          | ret => exact ⟨_, a₁, w₁, hq', .pass (x := .inLoop c) rfl (fun _ _ => .inl (by simp)) harr⟩
          | panic ch => exact ⟨_, a₁, w₁, hq', .pass (x := .inLoop c) rfl (fun _ _ => .inl (by simp)) harr⟩
          | outgrown => exact ⟨_, a₁, w₁, hq', .pass (x := .inLoop c) rfl (fun _ _ => .inl (by simp)) harr⟩
    obtain ⟨e, a', w', hq', harr⟩ := key _ f S η w a rfl h0 (Goes.refl hM) hf rfl rfl
    exact ⟨e, a', w', hq', .of_steps (.one step_loop) harr⟩
  | rangeFunc x ps aa b _ _ => intro Q S η w f a Q' _ _ _ h; exact h.elim
  | scope c _ => intro Q S η w f a Q' _ _ _ h; exact h.elim
  | goto l => intro Q S η w f a Q' _ _ _ h; exact h.elim
  | refuse s => intro Q S η w f a Q' _ _ _ h; exact h.elim
end

/-! ### Functions -/
def argF (args : List D) : Fm := fun t => args.getD t undefD
/-- What a function answers, of its frame. -/
def dres (P : Program) (f : Fm) (S : St) : ResultVar → Option (Prop × D)
  | .tmp t => some (True, f t)
  | .cell x t => match f x with
    | .loc k off => match S.ob k with
      | some (.box _ cs) => some (rdOk P t cs off, rdVal P t cs off)
      | _ => none
    | _ => none
def dresL (P : Program) (f : Fm) (S : St) : List ResultVar → (List D → Prop) → Prop
  | [], K => K []
  | r :: l, K => onVal (dres P f S r) fun d => dresL P f S l fun ds => K (d :: ds)
def one (ds : List D) : D := match ds with
  | [d] => d
  | ds => .tup ds
def resOk (n : Nat) : ResultVar → Bool
  | .tmp t => Nat.blt t n
  | .cell t _ => Nat.blt t n
def DLe (d d' : D) : Prop := ∀ (P : Program) (w : World) (η : Names) (X : Nat → Nat → Prop) (v : Value), Rep P w η X d v → Rep P w η X d' v
/-- The end of a call: what is forgotten, and what is left. -/
def DFin (S S' : St) (d : D) (K : D → St → Prop) : Prop := ∃ d' S'', DLe d d' ∧ d'.all (· < S''.next) ∧ S''.next ≤ S'.next ∧ S.next ≤ S''.next ∧
  (∀ k o, S''.ob k = some o → S'.ob k = some o ∧ k < S''.next ∧ ∀ t cs, o = .box t cs → S.ob k = some o ∨ allL (· < S''.next) cs) ∧ K d' S''
/-- Another tree, in a state of fewer names, stands for the same value. -/
def Thaw (P : Program) (S : St) (d : D) (S1 : St) (d1 : D) : Prop := ∀ base η w v, Mem P base S η w → Rep P w η (Fix P S η) d v → ∃ η', Goes P base S η w S1 η' w ∧ Rep P w η' (Fix P S1 η') d1 v
theorem Thaw.refl (P : Program) (S : St) (d : D) : Thaw P S d S d := fun _ η _ _ hM hr => ⟨η, Goes.refl hM, hr⟩
theorem Thaw.trans {P : Program} {S S1 S2 : St} {d d1 d2 : D} (h : Thaw P S d S1 d1) (k : Thaw P S1 d1 S2 d2) : Thaw P S d S2 d2 := fun base η w v hM hr =>
  let ⟨η1, h1, h1'⟩ := h base η w v hM hr
  let ⟨η2, h2, h2'⟩ := k base η1 w v h1.mem h1'
  ⟨η2, h1.trans h2, h2'⟩
def DFinT (P : Program) (S S' : St) (d : D) (K : D → St → Prop) : Prop := ∃ S1 d1, Thaw P S' d S1 d1 ∧ DFin S S1 d1 K
theorem DFin.t {P : Program} {S S' : St} {d : D} {K : D → St → Prop} (h : DFin S S' d K) : DFinT P S S' d K := ⟨S', d, Thaw.refl P S' d, h⟩
def DQ.fin (P : Program) (rs : List ResultVar) (S : St) (K : D → St → Prop) : DQ
  | .exit _, _, _ => False
  | _, f, S' => dresL P f S' rs fun ds => DFinT P S S' (one ds) K
section
variable {P : Program} {base : Nat} {S : St} {η : Names} {w : World} {f : Fm} {a : Act}
/-- One answer, out of the machine's frame. -/
def rv (tmps : Array Value) : ResultVar → Sem Value
  | .tmp t => pure (tmps.getD t undef)
  | .cell x t => do loadVar t (← asAddr (tmps.getD x undef))
theorem results_rv (fn : Func) (tmps : Array Value) : results fn tmps = (do let vs ← fn.results.mapM (rv tmps); pure (if h : vs.size = 1 then vs[0] else .tuple vs)) := by
  unfold results
  congr 1
theorem dres_sound (hM : Mem P base S η w) (hf : RepF P w η (Fix P S η) f a) {r : ResultVar} (hr : resOk a.tmps.size r = true) {c : Prop} {d : D} (h : dres P f S r = some (c, d)) (hc : c) :
    ∃ v, (rv a.tmps r).run P w = .ok v w ∧ Rep P w η (Fix P S η) d v := by
  cases r with
  | tmp t =>
    simp only [dres] at h
    injection h with h; injection h with _ hd; subst hd
    exact ⟨_, rfl, hf t (by simpa [resOk, Nat.blt_eq] using hr)⟩
  | cell x t =>
    simp only [dres] at h
    have hx := hf x (by simpa [resOk, Nat.blt_eq] using hr)
    split at h
    · rename_i k off hk
      rw [hk] at hx
      split at h
      · rename_i t' cs hb
        -- as a load
        have hl : dval P (fun _ => .loc k off) S 0 (.load t (.tmp 0)) = some (rdOk P t cs off, rdVal P t cs off) := by simp only [dval, ev, hb]
        rw [h] at hl
        have hF : RepF P w η (Fix P S η) (fun _ => .loc k off) { tmps := #[a.tmps.getD x undef], defers := [] } := fun i hi => by
          have : i = 0 := by simpa using hi
          subst this
          exact hx
        obtain ⟨v, h1, h2⟩ := dval_sound (o := ⟨none, .load t (.tmp 0), 0, "", #[], none⟩) hM hF (by simp [opsOk, Op.operands, opnOk]) hl hc
        simp only [Rep] at hx
        obtain ⟨b, _, e2⟩ := hx
        refine ⟨v, ?_, h2⟩
        have e : (execOp (Act.eval { tmps := #[a.tmps.getD x undef], defers := [] }) ⟨none, .load t (.tmp 0), 0, "", #[], none⟩).run P w = ((loadVar t ⟨b, off, none⟩).run P w).andThen fun v w => .ok (.value v) w := by
          unfold execOp
          simp only [Act.eval, Sem.run_bind, Instr.loadAt]
          rw [show (#[a.tmps.getD x undef] : Array Value).getD 0 undef = a.tmps.getD x undef from rfl, e2]
          rfl
        rw [e] at h1
        simp only [rv, e2, asAddr, Sem.run_bind, Sem.run_pure, Result.andThen_ok]
        cases hv : (loadVar t ⟨b, off, none⟩).run P w with
        | ok u w2 =>
          rw [hv] at h1
          simp only [Result.andThen_ok] at h1
          injection h1 with h1 h1'
          injection h1 with h1
          rw [h1, h1']
        | halt u w2 =>
          rw [hv] at h1
          cases h1
      · cases h
    · cases h
theorem dresL_sound (hM : Mem P base S η w) (hf : RepF P w η (Fix P S η) f a) : ∀ (l : List ResultVar) {K : List D → Prop}, (∀ r ∈ l, resOk a.tmps.size r = true) → dresL P f S l K →
    ∃ ds vs, K ds ∧ RepL P w η (Fix P S η) ds vs ∧ (l.mapM (rv a.tmps)).run P w = .ok vs w
  | [], K, _, h => ⟨[], [], h, by simp [RepL], rfl⟩
  | r :: l, K, hr, h => by
    unfold dresL at h
    cases hd : dres P f S r with
    | none => rw [hd] at h; exact h.elim
    | some p =>
      obtain ⟨c, d⟩ := p
      rw [hd] at h
      obtain ⟨v, h1, h2⟩ := dres_sound hM hf (hr r (by simp)) hd h.1
      obtain ⟨ds, vs, k1, k2, k3⟩ := dresL_sound hM hf l (fun r' hr' => hr r' (by simp [hr'])) h.2
      refine ⟨d :: ds, v :: vs, k1, by simp only [RepL]; exact ⟨v, vs, rfl, h2, k2⟩, ?_⟩
      rw [List.mapM_cons, Sem.run_bind]
      rw [h1, Result.andThen_ok, Sem.run_bind, k3, Result.andThen_ok]
      rfl
theorem results_sound (hM : Mem P base S η w) (hf : RepF P w η (Fix P S η) f a) {fn : Func} {K : List D → Prop} (hr : fn.results.all (resOk a.tmps.size) = true) (h : dresL P f S fn.results.toList K) :
    ∃ ds v, K ds ∧ Rep P w η (Fix P S η) (one ds) v ∧ (results fn a.tmps).run P w = .ok v w := by
  obtain ⟨ds, vs, k1, k2, k3⟩ := dresL_sound hM hf fn.results.toList (fun r hr' => Array.all_eq_true_iff_forall_mem.1 hr r (by simpa using hr')) h
  have hm : (fn.results.mapM (rv a.tmps)).run P w = .ok vs.toArray w := by
    rw [Array.mapM_eq_mapM_toList, map_eq_pure_bind, Sem.run_bind, k3, Result.andThen_ok]
    rfl
  have hrun : (results fn a.tmps).run P w = .ok (if h : vs.toArray.size = 1 then vs.toArray[0] else .tuple vs.toArray) w := by
    rw [results_rv, Sem.run_bind, hm, Result.andThen_ok]
    rfl
  have hl := k2.length
  cases ds with
  | nil =>
    have : vs = [] := List.eq_nil_of_length_eq_zero (by simpa using hl)
    subst this
    exact ⟨[], .tuple #[], k1, by simp only [one, Rep, RepL]; exact ⟨[], rfl, rfl⟩, hrun⟩
  | cons d1 ds =>
    cases vs with
    | nil => simp at hl
    | cons v1 vs =>
      cases ds with
      | nil =>
        have : vs = [] := List.eq_nil_of_length_eq_zero (by simpa using hl)
        subst this
        simp only [RepL] at k2
        obtain ⟨x, xs, h1, h2, h3⟩ := k2
        injection h1 with h1 _
        subst h1
        exact ⟨[d1], v1, k1, h2, hrun⟩
      | cons d2 ds =>
        refine ⟨_, .tuple (v1 :: vs).toArray, k1, by simp only [one, Rep]; exact ⟨_, rfl, k2⟩, ?_⟩
        rw [hrun, dif_neg (by simp only [List.size_toArray, List.length_cons] at hl ⊢; omega)]
/-- A function's contract, by the walk of its body. -/
theorem dcalls_of_dwp (hm : P.follows .mixedOrders = true) {g : FuncId} {fn : Func} {c : Code} (hf : P.funcs[g]? = some fn) (hb : fn.body = some c) (hent : ∀ vs w, (callFunc g vs).run P w = .ok (.enter g vs) w) {rs : List ResultVar} (hrs : fn.results.toList = rs) {args : List D} (hok : (codeOk fn.ntmps c && fn.results.all (resOk fn.ntmps) && Nat.ble args.length fn.ntmps) = true) {S : St} {K : D → St → Prop}
    (h : S.WF → dwp P c (DQ.fin P rs S K) (argF args) S) : DCalls P g args S K := by
  subst hrs
  intro base η w vs hM hr
  refine .inl ⟨hent _ _, ?_⟩
  simp only [Bool.and_eq_true] at hok
  obtain ⟨⟨hok1, hok2⟩, hok3⟩ := hok
  have hlen : args.length ≤ fn.ntmps := Nat.le_of_ble_eq_true hok3
  have hl := hr.length
  have hsz : (vs.toArray ++ Array.replicate (fn.ntmps - vs.toArray.size) undef).size = fn.ntmps := by simp; omega
  refine calls_of_wp hf hb ?_
  refine dwp_sound hm c (a := { tmps := vs.toArray ++ Array.replicate (fn.ntmps - vs.toArray.size) undef, defers := [] }) (by rw [hsz]; exact hok1) hM (fun t ht => ?_) (h hM.fresh) fun e f' S' η' w' a' k1 k2 k3 k4 k5 => ?_
  · rw [hsz] at ht
    simp only [argF]
    by_cases h1 : t < vs.length
    · obtain ⟨x, hx, hr'⟩ := hr.get t (List.getElem?_eq_getElem (by omega : t < args.length))
      have e1 : args.getD t undefD = args[t] := by rw [List.getD_eq_getElem?_getD, List.getElem?_eq_getElem (by omega : t < args.length)]; rfl
      have e2 : (vs.toArray ++ Array.replicate (fn.ntmps - vs.toArray.size) undef).getD t undef = x := by
        rw [Array.getD_eq_getD_getElem?, Array.getElem?_append_left (by simpa using h1)]
        simp [hx]
      rw [e1, e2]
      exact hr'
    · have e1 : args.getD t undefD = undefD := by rw [List.getD_eq_getElem?_getD, List.getElem?_eq_none (by omega)]; rfl
      have e2 : (vs.toArray ++ Array.replicate (fn.ntmps - vs.toArray.size) undef).getD t undef = undef := by
        rw [Array.getD_eq_getD_getElem?, Array.getElem?_append_right (by simpa using h1)]
        rw [Array.getElem?_replicate]
        split <;> rfl
      rw [e1, e2]
      simp only [Rep, RepL]
      exact ⟨[], rfl, rfl⟩
  · have hsz' : a'.tmps.size = fn.ntmps := by rw [k4]; exact hsz
    have hd' : a'.defers = [] := k5
    have fin : dresL P f' S' fn.results.toList (fun ds => DFinT P S S' (one ds) K) → a'.defers = [] ∧ ∃ v, (results fn a'.tmps).run P w' = .ok v w' ∧ ∃ d S'' η'' u, K d S'' ∧ Ending.returned v = .returned u ∧ Rep P w' η'' (Fix P S'' η'') d u ∧ Goes P base S η w S'' η'' w' := fun hres => by
      obtain ⟨ds, v, ⟨S1, d1, t1, d', S'', q1, q2, q3, q4, q5, q6⟩, q7, q8⟩ := results_sound k2.mem k3 (by rw [hsz']; exact hok2) hres
      obtain ⟨η3, t2, t3⟩ := t1 _ _ _ _ k2.mem q7
      obtain ⟨g1, g2⟩ := goes_fin hM (k2.trans t2) q3 q4 q5
      exact ⟨hd', v, q8, d', S'', _, v, q6, rfl, g2 d' v q2 (q1 _ _ _ _ _ t3), g1⟩
    cases e with
    | normal => exact fin k1
    | ret => exact fin k1
    | exit i => exact k1.elim
end

/-! ### Whose room it is, forgotten -/
mutual
def D.frz : D → D
  | .v x => .v x
  | .agg cs => .agg (frzL cs)
  | .tup cs => .tup (frzL cs)
  | .fn f fs cs => .fn f (frzL fs) (frzL cs)
  | .ifc t d => .ifc t d.frz
  | .loc k o => .loc k o
  | .rd cs o => .rd (frzL cs) o
  | .sl _ es => .sl .no (frzL es)
  | .win k off n c => .win k off n c
def frzL : List D → List D
  | [] => []
  | d :: l => d.frz :: frzL l
end
theorem frzL_map : ∀ l : List D, frzL l = l.map D.frz
  | [] => rfl
  | d :: l => by simp [frzL, frzL_map l]
theorem frzL_length : ∀ l : List D, (frzL l).length = l.length
  | [] => rfl
  | d :: l => by simp [frzL, frzL_length l]
theorem frz_isAgg (d : D) : d.frz.isAgg = d.isAgg := by cases d <;> rfl
section
variable {P : Program} {w : World} {η : Names} {X : Nat → Nat → Prop}
mutual
theorem Rep.frz : ∀ {d : D} {v : Value}, Rep P w η X d v → Rep P w η X d.frz v
  | .v x, v, h => by simp only [D.frz]; exact h
  | .agg cs, v, h => by
    simp only [D.frz, Rep] at *
    obtain ⟨vs, h1, h2, h3⟩ := h
    exact ⟨vs, h1, RepL.frz h2, h3⟩
  | .tup cs, v, h => by
    simp only [D.frz, Rep] at *
    obtain ⟨vs, h1, h2⟩ := h
    exact ⟨vs, h1, RepL.frz h2⟩
  | .fn f fs cs, v, h => by
    simp only [D.frz, Rep] at *
    obtain ⟨us, vs, h1, h2, h3⟩ := h
    exact ⟨us, vs, h1, RepL.frz h2, RepL.frz h3⟩
  | .ifc t d, v, h => by
    simp only [D.frz, Rep] at *
    obtain ⟨x, h1, h2⟩ := h
    exact ⟨x, h1, Rep.frz h2⟩
  | .loc k o, v, h => by simp only [D.frz]; exact h
  | .rd cs o, v, h => by
    simp only [D.frz, Rep] at *
    obtain ⟨b, p, h1, h2⟩ := h
    exact ⟨b, p, h1, RepC.frz h2⟩
  | .sl o es, v, h => by
    simp only [D.frz, Rep] at *
    rw [frzL_length]
    obtain ⟨A, c, h1, h2, h3, h4, h5⟩ := h
    refine ⟨A, c, h1, h2, h3, trivial, fun h0 => ?_⟩
    obtain ⟨b, p, z, e1, e2, e3⟩ := h5 h0
    exact ⟨b, p, z, e1, e2, RepE.frz z e3⟩
  | .win k off n c, v, h => by simp only [D.frz]; exact h
theorem RepL.frz : ∀ {l : List D} {vs : List Value}, RepL P w η X l vs → RepL P w η X (frzL l) vs
  | [], vs, h => by simp only [frzL]; exact h
  | d :: l, vs, h => by
    simp only [frzL, RepL] at *
    obtain ⟨x, xs, h1, h2, h3⟩ := h
    exact ⟨x, xs, h1, Rep.frz h2, RepL.frz h3⟩
theorem RepC.frz : ∀ {l : List D} {b o : Nat}, RepC P w η X l b o → RepC P w η X (frzL l) b o
  | [], b, o, h => by simp only [frzL]; exact h
  | d :: l, b, o, h => by
    simp only [frzL, RepC] at *
    obtain ⟨⟨h1, x, h2, h3, h4⟩, h5⟩ := h
    exact ⟨⟨h1, x, h2, h3, Rep.frz h4⟩, RepC.frz h5⟩
theorem RepE.frz (z : Nat) : ∀ {l : List D} {b o : Nat}, RepE P w η X z l b o → RepE P w η X z (frzL l) b o
  | [], b, o, h => by simp only [frzL]; exact h
  | d :: l, b, o, h => by
    simp only [frzL, RepE] at *
    obtain ⟨⟨h1, h2⟩, h5⟩ := h
    refine ⟨⟨RepA.frz z h1, fun hn => ?_⟩, RepE.frz z h5⟩
    rw [frz_isAgg] at hn
    obtain ⟨e1, e2, x, e3, e4, e5⟩ := h2 hn
    exact ⟨e1, e2, x, e3, e4, Rep.frz e5⟩
theorem RepA.frz (z : Nat) : ∀ {d : D} {b o : Nat}, RepA P w η X z d b o → RepA P w η X z d.frz b o
  | .agg cs, b, o, h => by
    simp only [D.frz, RepA] at *
    rw [frzL_length]
    exact ⟨h.1, RepC.frz h.2⟩
  | .v _, _, _, _ => by simp only [D.frz, RepA]
  | .tup _, _, _, _ => by simp only [D.frz, RepA]
  | .fn _ _ _, _, _, _ => by simp only [D.frz, RepA]
  | .ifc _ _, _, _, _ => by simp only [D.frz, RepA]
  | .loc _ _, _, _, _ => by simp only [D.frz, RepA]
  | .rd _ _, _, _, _ => by simp only [D.frz, RepA]
  | .sl _ _, _, _, _ => by simp only [D.frz, RepA]
  | .win _ _ _ _, _, _, _ => by simp only [D.frz, RepA]
end
end
theorem DLe.refl (d : D) : DLe d d := fun _ _ _ _ _ h => h
theorem DLe.frz (d : D) : DLe d d.frz := fun _ _ _ _ _ h => h.frz
/-- No name of the call's own is in it. -/
def D.closed (d : D) : Prop := d.all fun _ => False
theorem St.Sub.refl (S : St) : S.Sub S := ⟨Nat.le_refl _, fun _ _ h => h⟩
theorem St.Sub.add {S S' : St} (h : S.Sub S') (hw : S.WF) (o : Ob) : S.Sub (S'.add o) := ⟨Nat.le_succ_of_le h.next, fun k o' hk => by
  have : k ≠ S'.next := fun e => by
    have hlt : k < S.next := by
      rcases Nat.lt_or_ge k S.next with h' | h'
      · exact h'
      · rw [hw k h'] at hk; cases hk
    have := h.next
    omega
  simp only [St.add]
  rw [if_neg this]
  exact h.ob k o' hk⟩
theorem St.WF.lt {S : St} (hw : S.WF) {k : Nat} {o : Ob} (h : S.ob k = some o) : k < S.next := by
  rcases Nat.lt_or_ge k S.next with h' | h'
  · exact h'
  · rw [hw k h'] at h; cases h
theorem St.Sub.set {S S' : St} (h : S.Sub S') (hw : S.WF) {k : Nat} (hk : S.next ≤ k) (o : Ob) : S.Sub (S'.set k o) := ⟨h.next, fun j o' hj => by
  have := hw.lt hj
  simp only [St.set]
  rw [if_neg (by omega)]
  exact h.ob j o' hj⟩
theorem St.Sub.drop {S S' : St} (h : S.Sub S') (hw : S.WF) {k : Nat} (hk : S.next ≤ k) : S.Sub (S'.drop k) := ⟨h.next, fun j o' hj => by
  have := hw.lt hj
  simp only [St.drop]
  rw [if_neg (by omega)]
  exact h.ob j o' hj⟩
/-- The end of a call that leaves the state as it was. -/
structure PFin (S S' : St) (r d : D) : Prop where
  eq : r.frz = d
  sub : S.Sub S'
def DQ.pfin (P : Program) (rs : List ResultVar) (S : St) (d : D) : DQ
  | .exit _, _, _ => False
  | _, f, S' => dresL P f S' rs fun ds => PFin S S' (one ds) d
theorem dresL_mono {P : Program} {f : Fm} {S : St} : ∀ {l : List ResultVar} {K K' : List D → Prop}, (∀ ds, K ds → K' ds) → dresL P f S l K → dresL P f S l K'
  | [], _, _, h, k => h _ k
  | _ :: _, _, _, h, k => by
    unfold dresL at *
    exact onVal_mono (fun d hd => dresL_mono (fun ds hds => h _ hds) hd) k
theorem pfin_fin {P : Program} {rs : List ResultVar} {S : St} {d : D} (hw : S.WF) (hc : d.closed) : ∀ e f S', DQ.pfin P rs S d e f S' → DQ.fin P rs S (fun d' T => d' = d ∧ T = S) e f S' := by
  have key : ∀ f S', dresL P f S' rs (fun ds => PFin S S' (one ds) d) → dresL P f S' rs (fun ds => DFinT P S S' (one ds) fun d' T => d' = d ∧ T = S) := fun f S' h =>
    dresL_mono (fun ds ⟨h1, h2⟩ => DFin.t ⟨d, S, h1 ▸ DLe.frz _, D.all_mono (fun _ h => h.elim) hc, h2.next, Nat.le_refl _, fun k o hk => ⟨h2.ob k o hk, hw.lt hk, fun _ _ _ => .inl hk⟩, rfl, rfl⟩) h
  intro e f S' h
  cases e with
  | normal => exact key f S' h
  | ret => exact key f S' h
  | exit i => exact h
theorem dquiet_mono {P : Program} {f : Fm} {S : St} {ty : TypeId} {op : Op} {K K' : D → Prop} (h : ∀ d, K d → K' d) (hq : dquiet P f S ty op K) : dquiet P f S ty op K' := by
  obtain ⟨d, h1, h2⟩ := dquiet_iff.1 hq
  exact dquiet_iff.2 ⟨d, h1, h d h2⟩
theorem hop_mono {P : Program} {f : Fm} {S : St} {u : Option Ob} {ty : TypeId} {op : Op} {K K' : D → Option Ob → Prop} (h : ∀ d u, K d u → K' d u) (hq : hop P f S u ty op K) : hop P f S u ty op K' := by
  cases op with
  | alloc t => exact ⟨hq.1, hq.2.1, h _ _ hq.2.2⟩
  | box t x => exact ⟨hq.1, hq.2.1, h _ _ hq.2.2⟩
  | _ => simp only [hop] at hq ⊢; exact dquiet_mono (fun d hd => h d u hd) hq
theorem dhead_mono {P : Program} {ops : Array Oper} {S : St} {Q Q' : Fm → St → Prop} (h : ∀ f S, Q f S → Q' f S) : ∀ (l : List Oper) {f : Fm} {u : Option Ob}, dhead P ops S Q l f u → dhead P ops S Q' l f u
  | [], _, _, k => h _ _ k
  | o :: l, f, u, k => by
    unfold dhead at *
    split at k
    · exact hop_mono (fun d u' hd => dhead_mono h l hd) k
    · exact dwanted_mono (fun hq => dquiet_mono (fun d hd => dhead_mono h l hd) hq) (dhead_mono h l) k
theorem dwp_mono {P : Program} : ∀ (c : Code) {Q Q' : DQ} {f : Fm} {S : St}, (∀ e f S, Q e f S → Q' e f S) → dwp P c Q f S → dwp P c Q' f S := by
  intro c
  induction c with
  | region id ops draw =>
    intro Q Q' f S h k
    cases draw with
    | false => exact dops_mono (h .normal) _ k
    | true =>
      rcases k with ⟨n, h1, h2⟩ | ⟨Zs, n, h1, h2, h3⟩
      · exact .inl ⟨n, h1, dhead_mono (fun f' S' hf' => dops_mono (h .normal) _ hf') _ h2⟩
      · exact .inr ⟨Zs, n, h1, h2, sAny_mono (fun f' S' hf' => dops_mono (h .normal) _ hf') _ _ h3⟩
  | seq x y ihx ihy =>
    intro Q Q' f S h k
    refine ihx (fun e f2 S2 hq => ?_) k
    cases e with
    | normal =>
      have hq' : dwp P y Q f2 S2 := hq
      have h3 : dwp P y Q' f2 S2 := ihy (f := f2) (S := S2) h hq'
      exact h3
    | exit i => exact h _ _ _ hq
    | ret => exact h _ _ _ hq
  | cond g x y ihx ihy =>
    intro Q Q' f S h k
    unfold dwp at k ⊢
    generalize ev f g = u at k ⊢
    cases u with
    | v u => cases u with
      | bool b => exact ⟨fun e => ihx h (k.1 e), fun e => ihy h (k.2 e)⟩
      | _ => exact k
    | _ => exact k
  | block id c ih =>
    intro Q Q' f S h k
    refine ih (fun e f S hq => ?_) k
    cases e with
    | normal => exact h _ _ _ hq
    | ret => exact h _ _ _ hq
    | exit i =>
      simp only [DQ.block] at *
      cases hb : Nat.beq i id with
      | true => rw [hb] at hq; exact h _ _ _ hq
      | false => rw [hb] at hq; exact h _ _ _ hq
  | loop c ih =>
    intro Q Q' f S h k
    obtain ⟨I, μ, h0, hr⟩ := k
    refine ⟨I, μ, h0, fun g T hI => ih (fun e f S hq => ?_) (hr g T hI)⟩
    cases e with
    | normal => exact hq
    | exit i => exact h _ _ _ hq
    | ret => exact h _ _ _ hq
  | skip => intro Q Q' f S h k; exact h _ _ _ k
  | label l => intro Q Q' f S h k; exact h _ _ _ k
  | exit i => intro Q Q' f S h k; exact h _ _ _ k
  | ret => intro Q Q' f S h k; exact h _ _ _ k
  | rangeFunc x ps aa b _ _ => intro Q Q' f S _ k; exact k.elim
  | scope c _ => intro Q Q' f S _ k; exact k.elim
  | goto l => intro Q Q' f S _ k; exact k.elim
  | refuse s => intro Q Q' f S _ k; exact k.elim
/-- A pure function's contract, by the walk of its body. -/
theorem dpure_of_dwp {P : Program} (hm : P.follows .mixedOrders = true) {g : FuncId} {fn : Func} {c : Code} (hf : P.funcs[g]? = some fn) (hb : fn.body = some c) (hent : ∀ vs w, (callFunc g vs).run P w = .ok (.enter g vs) w) {rs : List ResultVar} (hrs : fn.results.toList = rs) {args : List D} (hok : (codeOk fn.ntmps c && fn.results.all (resOk fn.ntmps) && Nat.ble args.length fn.ntmps) = true) {d : D} (hc : d.closed)
    (h : ∀ S : St, S.WF → dwp P c (DQ.pfin P rs S d) (argF args) S) : DPure P g args d := fun S =>
  dcalls_of_dwp hm hf hb hent hrs hok fun hw => dwp_mono c (pfin_fin hw hc) (h S hw)
end Go.Proofs.Ytjjhjhjphhpeiaa

namespace Go.Proofs.Ytjjhjhjphhpeiaa
open Go.RowKit

theorem put_eq (f : Fm) (t : Tmp) (d : D) : put f (some t) d t = d := by simp [put]
theorem put_ne (f : Fm) (t : Tmp) (d : D) (i : Nat) (h : (i == t) = false) : put f (some t) d i = f i := by
  have : Nat.beq i t = false := by
    cases hb : Nat.beq i t with
    | false => rfl
    | true => rw [Nat.eq_of_beq_eq_true hb] at h; simp at h
  simp [put, this]
theorem put_none (f : Fm) (d : D) : put f none d = f := Eq.trans (Eq.refl _) (Eq.refl _)
theorem argF_nil (t : Nat) : argF [] t = undefD := Eq.trans (Eq.refl _) (Eq.refl _)
theorem argF_zero (d : D) (l : List D) : argF (d :: l) 0 = d := Eq.trans (Eq.refl _) (Eq.refl _)
theorem argF_succ (d : D) (l : List D) (t : Nat) : argF (d :: l) (t + 1) = argF l t := Eq.trans (Eq.refl _) (Eq.refl _)
section
variable {P : Program} {x y : Operand} {t : TypeId}
theorem pureRun_bind {α β : Type} (s : Sem α) (g : α → Sem β) : pureRun P (s >>= g) = (pureRun P s).bind fun a => pureRun P (g a) := by
  show pureRun P (Sem.bind s g) = _
  induction s with
  | pure a => rfl
  | program k ih => simp only [Sem.bind, pureRun]; exact ih _
  | mark m k ih => simp only [Sem.bind, pureRun]; exact ih
  | _ => rfl
theorem pureRun_pure {α : Type} (a : α) : pureRun P (pure a : Sem α) = some a := Eq.trans (Eq.refl _) (Eq.refl _)
theorem ofV_int (k : IntKind) (n : Int) : ofV (.int k n) = .v (.int k n) := Eq.trans (Eq.refl _) (Eq.refl _)
theorem ofV_bool (b : Bool) : ofV (.bool b) = .v (.bool b) := Eq.trans (Eq.refl _) (Eq.refl _)
theorem ofV_string (s : ByteArray) : ofV (.string s) = .v (.string s) := Eq.trans (Eq.refl _) (Eq.refl _)
theorem ofV_nil : ofV (.slice none 0 0) = .sl .full [] := Eq.trans (Eq.refl _) (Eq.refl _)
theorem ofV_iface : ofV .nilIface = .v .nilIface := Eq.trans (Eq.refl _) (Eq.refl _)
theorem ofV_func : ofV .nilFunc = .v .nilFunc := Eq.trans (Eq.refl _) (Eq.refl _)
theorem ofV_ptr (a : Option Addr) : ofV (.pointer a) = .v (.pointer a) := Eq.trans (Eq.refl _) (Eq.refl _)
/-! Operations on plain values. -/
theorem bin_add (k : IntKind) (a b : Int) : dbin P .add t x y (.v (.int k a)) (.v (.int k b)) = some (True, .v (.int k (k.wrap (a + b)))) := by
  simp [dbin, eqGuard, binOp, Op.intArith, pureRun_bind, pureRun_pure]
theorem bin_sub (k : IntKind) (a b : Int) : dbin P .sub t x y (.v (.int k a)) (.v (.int k b)) = some (True, .v (.int k (k.wrap (a - b)))) := by
  simp [dbin, eqGuard, binOp, Op.intArith, pureRun_bind, pureRun_pure]
theorem bin_mul (k : IntKind) (a b : Int) : dbin P .mul t x y (.v (.int k a)) (.v (.int k b)) = some (True, .v (.int k (k.wrap (a * b)))) := by
  simp [dbin, eqGuard, binOp, Op.intArith, pureRun_bind, pureRun_pure]
theorem bin_eql (k : IntKind) (a b : Int) : dbin P .eql t x y (.v (.int k a)) (.v (.int k b)) = some (True, .v (.bool (a == b))) := by
  simp [dbin, eqGuard, binOp, Op.intCmp, pureRun_bind, pureRun_pure]
theorem bin_neq (k : IntKind) (a b : Int) : dbin P .neq t x y (.v (.int k a)) (.v (.int k b)) = some (True, .v (.bool (a != b))) := by
  simp [dbin, eqGuard, binOp, Op.intCmp, pureRun_bind, pureRun_pure]
theorem bin_lss (k : IntKind) (a b : Int) : dbin P .lss t x y (.v (.int k a)) (.v (.int k b)) = some (True, .v (.bool (decide (a < b)))) := by
  simp [dbin, eqGuard, binOp, Op.intCmp, pureRun_bind, pureRun_pure]
theorem bin_leq (k : IntKind) (a b : Int) : dbin P .leq t x y (.v (.int k a)) (.v (.int k b)) = some (True, .v (.bool (decide (a ≤ b)))) := by
  simp [dbin, eqGuard, binOp, Op.intCmp, pureRun_bind, pureRun_pure]
theorem bin_gtr (k : IntKind) (a b : Int) : dbin P .gtr t x y (.v (.int k a)) (.v (.int k b)) = some (True, .v (.bool (decide (b < a)))) := by
  simp [dbin, eqGuard, binOp, Op.intCmp, pureRun_bind, pureRun_pure]
theorem bin_geq (k : IntKind) (a b : Int) : dbin P .geq t x y (.v (.int k a)) (.v (.int k b)) = some (True, .v (.bool (decide (b ≤ a)))) := by
  simp [dbin, eqGuard, binOp, Op.intCmp, pureRun_bind, pureRun_pure]
theorem bin_leql (k off : Nat) : dbin P .eql t x y (.loc k off) (.v (.pointer none)) = some (ptrT P t = true, .v (.bool false)) := Eq.trans (Eq.refl _) (Eq.refl _)
theorem bin_lneq (k off : Nat) : dbin P .neq t x y (.loc k off) (.v (.pointer none)) = some (ptrT P t = true, .v (.bool true)) := Eq.trans (Eq.refl _) (Eq.refl _)
theorem bin_ieql (u : TypeId) (d : D) : dbin P .eql t x y (.ifc u d) (.v .nilIface) = some (ifaceT P t = true, .v (.bool false)) := Eq.trans (Eq.refl _) (Eq.refl _)
theorem bin_ineq (u : TypeId) (d : D) : dbin P .neq t x y (.ifc u d) (.v .nilIface) = some (ifaceT P t = true, .v (.bool true)) := Eq.trans (Eq.refl _) (Eq.refl _)
theorem bin_ifc (t1 t2 : TypeId) (a b : D) : dbin P .eql t x y (.ifc t1 a) (.ifc t2 b) = some (IfcEq P t x y t1 a t2 b, .v (.bool (ifcB t1 a t2 b))) := Eq.trans (Eq.refl _) (Eq.refl _)
theorem bin_seql (a b : ByteArray) : dbin P .eql t x y (.v (.string a)) (.v (.string b)) = some (True, .v (.bool (a.toList == b.toList))) := by
  simp [dbin, eqGuard, binOp, Op.stringOp, pureRun_bind, pureRun_pure]
theorem bin_sneq (a b : ByteArray) : dbin P .neq t x y (.v (.string a)) (.v (.string b)) = some (True, .v (.bool (!(a.toList == b.toList)))) := by
  simp [dbin, eqGuard, binOp, Op.stringOp, pureRun_bind, pureRun_pure]
theorem bin_slss (a b : ByteArray) : dbin P .lss t x y (.v (.string a)) (.v (.string b)) = some (True, .v (.bool (Op.bytesLess a.toList b.toList))) := by
  simp [dbin, eqGuard, binOp, Op.stringOp, pureRun_bind, pureRun_pure]
theorem bin_sgtr (a b : ByteArray) : dbin P .gtr t x y (.v (.string a)) (.v (.string b)) = some (True, .v (.bool (!(Op.bytesLess a.toList b.toList || a.toList == b.toList)))) := by
  simp [dbin, eqGuard, binOp, Op.stringOp, pureRun_bind, pureRun_pure]
theorem bin_sleq (a b : ByteArray) : dbin P .leq t x y (.v (.string a)) (.v (.string b)) = some (True, .v (.bool (Op.bytesLess a.toList b.toList || a.toList == b.toList))) := by
  simp [dbin, eqGuard, binOp, Op.stringOp, pureRun_bind, pureRun_pure]
theorem bin_sgeq (a b : ByteArray) : dbin P .geq t x y (.v (.string a)) (.v (.string b)) = some (True, .v (.bool (!Op.bytesLess a.toList b.toList))) := by
  simp [dbin, eqGuard, binOp, Op.stringOp, pureRun_bind, pureRun_pure]
theorem un_not (b : Bool) : pureRun P (Op.unary .not (.bool b)) = some (.bool (!b)) := Eq.trans (Eq.refl _) (Eq.refl _)
theorem un_neg (k : IntKind) (n : Int) : pureRun P (Op.unary .neg (.int k n)) = some (.int k (k.wrap (0 - n))) := Eq.trans (Eq.refl _) (Eq.refl _)
theorem bu_len (own : Own) (es : List D) (t ty : TypeId) (cs : Array Bool) {e : TypeId} (h : elT P t = some e) : dbuiltin P .len #[t] ty cs [.sl own es] = some (True, .v (.int .i64 es.length)) := by
  simp [dbuiltin, vals, dlen, h]
theorem bu_wlen (k off n c : Nat) (t ty : TypeId) (cs : Array Bool) {e : TypeId} (h : elT P t = some e) : dbuiltin P .len #[t] ty cs [.win k off n c] = some (True, .v (.int .i64 n)) := by
  simp [dbuiltin, vals, dlen, h]
theorem bu_wcap (k off n c : Nat) (t ty : TypeId) (cs : Array Bool) {e : TypeId} (h : elT P t = some e) : dbuiltin P .cap #[t] ty cs [.win k off n c] = some (True, .v (.int .i64 c)) := by
  simp [dbuiltin, vals, dlen, h]
theorem bu_max (k : IntKind) (a b : Int) (ts : Array TypeId) (ty : TypeId) (cs : Array Bool) : dbuiltin P .max ts ty cs [.v (.int k a), .v (.int k b)] = some (True, .v (.int k (if a < b then b else a))) := by
  simp [dbuiltin, vals, builtin, Builtin.max_, Builtin.max2, pureRun_bind, pureRun_pure]
theorem bu_min (k : IntKind) (a b : Int) (ts : Array TypeId) (ty : TypeId) (cs : Array Bool) : dbuiltin P .min ts ty cs [.v (.int k a), .v (.int k b)] = some (True, .v (.int k (if b < a then b else a))) := by
  simp [dbuiltin, vals, builtin, Builtin.min_, Builtin.min2, pureRun_bind, pureRun_pure]
end

/-! The walk, step by step; what follows stands behind a name till it is come to. -/
section
variable {P : Program} {Q : DQ} {f : Fm} {S : St}
def dwpF (P : Program) (c : Code) (Q : DQ) (f : Fm) (S : St) : Prop := dwp P c Q f S
def dIf (c : D) (x y : Prop) : Prop := match c with
  | .v (.bool b) => (b = true → x) ∧ (b = false → y)
  | _ => False
theorem dwp_skip : dwp P .skip Q f S = Q .normal f S := Eq.trans (Eq.refl _) (Eq.refl _)
theorem dwp_label (l : Nat) : dwp P (.label l) Q f S = Q .normal f S := Eq.trans (Eq.refl _) (Eq.refl _)
theorem dwp_exit (i : Nat) : dwp P (.exit i) Q f S = Q (.exit i) f S := Eq.trans (Eq.refl _) (Eq.refl _)
theorem dwp_ret : dwp P .ret Q f S = Q .ret f S := Eq.trans (Eq.refl _) (Eq.refl _)
theorem dwp_seq (x y : Code) : dwp P (.seq x y) Q f S = dwp P x (DQ.then (dwp P y Q) Q) f S := Eq.trans (Eq.refl _) (Eq.refl _)
theorem dwp_block (id : Nat) (c : Code) : dwp P (.block id c) Q f S = dwp P c (DQ.block id Q) f S := Eq.trans (Eq.refl _) (Eq.refl _)
theorem dwp_loop (c : Code) : dwp P (.loop c) Q f S = DLoop (dwp P c) Q f S := Eq.trans (Eq.refl _) (Eq.refl _)
theorem dwp_cond (c : Operand) (x y : Code) : dwp P (.cond c x y) Q f S = dIf (ev f c) (dwpF P x Q f S) (dwpF P y Q f S) := by
  unfold dwp dIf dwpF
  rfl
theorem dwp_region (id : Nat) (l : List Oper) : dwp P (.region id (List.toArray l) false) Q f S = dops P (List.toArray l) (Q .normal) l f S := Eq.trans (Eq.refl _) (Eq.refl _)
theorem dwp_draw (id : Nat) (l : List Oper) : dwp P (.region id (List.toArray l) true) Q f S = ddraw P l (Q .normal) f S := Eq.trans (Eq.refl _) (Eq.refl _)
theorem then_normal (k : Fm → St → Prop) : DQ.then k Q .normal f S = k f S := Eq.trans (Eq.refl _) (Eq.refl _)
theorem then_exit (k : Fm → St → Prop) (i : Nat) : DQ.then k Q (.exit i) f S = Q (.exit i) f S := Eq.trans (Eq.refl _) (Eq.refl _)
theorem then_ret (k : Fm → St → Prop) : DQ.then k Q .ret f S = Q .ret f S := Eq.trans (Eq.refl _) (Eq.refl _)
theorem block_normal (id : Nat) : DQ.block id Q .normal f S = Q .normal f S := Eq.trans (Eq.refl _) (Eq.refl _)
theorem block_ret (id : Nat) : DQ.block id Q .ret f S = Q .ret f S := Eq.trans (Eq.refl _) (Eq.refl _)
theorem block_eq (id : Nat) : DQ.block id Q (.exit id) f S = Q .normal f S := by simp [DQ.block]
theorem block_ne (i id : Nat) (h : (i == id) = false) : DQ.block id Q (.exit i) f S = Q (.exit i) f S := by
  have : Nat.beq i id = false := by
    cases hb : Nat.beq i id with
    | false => rfl
    | true => rw [Nat.eq_of_beq_eq_true hb] at h; simp at h
  simp [DQ.block, this]
def dnext (P : Program) (ops : Array Oper) (R : Fm → St → Prop) (r : List Oper) (f : Fm) (dst : Option Tmp) (d : D) (S : St) : Prop := dops P ops R r (put f dst d) S
theorem dnext_eq (ops : Array Oper) (R : Fm → St → Prop) (r : List Oper) (dst : Option Tmp) (d : D) : dnext P ops R r f dst d S = dops P ops R r (put f dst d) S := Eq.trans (Eq.refl _) (Eq.refl _)
def dskip (P : Program) (ops : Array Oper) (R : Fm → St → Prop) (r : List Oper) (f : Fm) (dst : Option Tmp) (S : St) : Prop := dops P ops R r (put f dst undefD) S
def dopF (P : Program) (f : Fm) (S : St) (ty : TypeId) (op : Op) (K : D → St → Prop) : Prop := dop P f S ty op K
def gtmp : List Oper → Nat → Option Tmp
  | [], _ => none
  | o :: _, 0 => o.dst
  | _ :: l, n + 1 => gtmp l n
theorem gtmp_eq : ∀ (l : List Oper) (n : Nat), ((List.toArray l)[n]?).bind (·.dst) = gtmp l n
  | [], n => by simp [gtmp]
  | o :: l, 0 => by simp [gtmp]
  | o :: l, n + 1 => by have := gtmp_eq l n; simpa [gtmp] using this
theorem gtmp_zero (dst : Option Tmp) (op : Op) (ty : TypeId) (pos : String) (after : Array Edge) (g : Option (Nat × Bool)) (l : List Oper) : gtmp (⟨dst, op, ty, pos, after, g⟩ :: l) 0 = dst := Eq.trans (Eq.refl _) (Eq.refl _)
theorem gtmp_succ (o : Oper) (l : List Oper) (n : Nat) : gtmp (o :: l) (n + 1) = gtmp l n := Eq.trans (Eq.refl _) (Eq.refl _)
def dguardT (t : Option Tmp) (f : Fm) (want : Bool) (y n : Prop) : Prop := match t with
  | some t => match f t with
    | .v (.bool b) => (b = want → y) ∧ (b = !want → n)
    | .tup [] => n
    | _ => False
  | none => False
def dguard (x : D) (want : Bool) (y n : Prop) : Prop := match x with
  | .v (.bool b) => (b = want → y) ∧ (b = !want → n)
  | .tup [] => n
  | _ => False
theorem dguardT_some (t : Tmp) (want : Bool) (y n : Prop) : dguardT (some t) f want y n = dguard (f t) want y n := Eq.trans (Eq.refl _) (Eq.refl _)
section
variable {y n : Prop} {ty : TypeId} {op : Op} {K : D → St → Prop} {ops : Array Oper} {R : Fm → St → Prop} {r : List Oper} {dst : Option Tmp}
theorem dg_tt : dguard (.v (.bool true)) true (dopF P f S ty op K) n = dop P f S ty op K := by simp [dguard, dopF]
theorem dg_ff : dguard (.v (.bool false)) false (dopF P f S ty op K) n = dop P f S ty op K := by simp [dguard, dopF]
theorem dg_tf : dguard (.v (.bool true)) false y (dskip P ops R r f dst S) = dops P ops R r (put f dst undefD) S := by simp [dguard, dskip]
theorem dg_ft : dguard (.v (.bool false)) true y (dskip P ops R r f dst S) = dops P ops R r (put f dst undefD) S := by simp [dguard, dskip]
theorem dg_no (want : Bool) : dguard undefD want y (dskip P ops R r f dst S) = dops P ops R r (put f dst undefD) S := Eq.trans (Eq.refl _) (Eq.refl _)
end
theorem dIf_t (x : Code) (Y : Prop) : dIf (.v (.bool true)) (dwpF P x Q f S) Y = dwp P x Q f S := by simp [dIf, dwpF]
theorem dIf_f (y : Code) (X : Prop) : dIf (.v (.bool false)) X (dwpF P y Q f S) = dwp P y Q f S := by simp [dIf, dwpF]
theorem dops_nil (ops : Array Oper) (R : Fm → St → Prop) : dops P ops R [] f S = R f S := Eq.trans (Eq.refl _) (Eq.refl _)
theorem dops_plain (ops : Array Oper) (R : Fm → St → Prop) (r : List Oper) (dst : Option Tmp) (op : Op) (ty : TypeId) (pos : String) (after : Array Edge) : dops P ops R (⟨dst, op, ty, pos, after, none⟩ :: r) f S = dop P f S ty op (dnext P ops R r f dst) := Eq.trans (Eq.refl _) (Eq.refl _)
theorem dops_guard (l : List Oper) (R : Fm → St → Prop) (r : List Oper) (dst : Option Tmp) (op : Op) (ty : TypeId) (pos : String) (after : Array Edge) (j : Nat) (want : Bool) :
    dops P (List.toArray l) R (⟨dst, op, ty, pos, after, some (j, want)⟩ :: r) f S = dguardT (gtmp l j) f want (dopF P f S ty op (dnext P (List.toArray l) R r f dst)) (dskip P (List.toArray l) R r f dst S) := by
  rw [← gtmp_eq]; rfl
def onValS (o : Option (Prop × D)) (K : D → St → Prop) (S : St) : Prop := match o with
  | some (c, d) => c ∧ K d S
  | none => False
theorem onValS_some (c : Prop) (d : D) (K : D → St → Prop) : onValS (some (c, d)) K S = (c ∧ K d S) := Eq.trans (Eq.refl _) (Eq.refl _)
theorem onVal_some (c : Prop) (d : D) (K : D → Prop) : onVal (some (c, d)) K = (c ∧ K d) := Eq.trans (Eq.refl _) (Eq.refl _)
theorem dop_move {ty : TypeId} {K : D → St → Prop} (x : Operand) : dop P f S ty (.move x) K = onValS (dval P f S ty (.move x)) K S := by
  unfold dop; exact Eq.trans (Eq.refl _) (Eq.refl _)
theorem dop_assign {ty : TypeId} {K : D → St → Prop} (x : Operand) : dop P f S ty (.assign x) K = onValS (dval P f S ty (.assign x)) K S := by
  unfold dop; exact Eq.trans (Eq.refl _) (Eq.refl _)
theorem dop_pick {ty : TypeId} {K : D → St → Prop} (c x y : Operand) : dop P f S ty (.pick c x y) K = onValS (dval P f S ty (.pick c x y)) K S := by
  unfold dop; exact Eq.trans (Eq.refl _) (Eq.refl _)
theorem dop_load {ty : TypeId} {K : D → St → Prop} (t : TypeId) (x : Operand) : dop P f S ty (.load t x) K = onValS (dval P f S ty (.load t x)) K S := by
  unfold dop; exact Eq.trans (Eq.refl _) (Eq.refl _)
theorem dop_fieldAddr {ty : TypeId} {K : D → St → Prop} (t : TypeId) (x : Operand) (i : Nat) : dop P f S ty (.fieldAddr t x i) K = onValS (dval P f S ty (.fieldAddr t x i)) K S := by
  unfold dop; exact Eq.trans (Eq.refl _) (Eq.refl _)
theorem dop_field {ty : TypeId} {K : D → St → Prop} (t : TypeId) (x : Operand) (i : Nat) : dop P f S ty (.field t x i) K = onValS (dval P f S ty (.field t x i)) K S := by
  unfold dop; exact Eq.trans (Eq.refl _) (Eq.refl _)
theorem dop_indexAddr {ty : TypeId} {K : D → St → Prop} (t : TypeId) (x i : Operand) : dop P f S ty (.indexAddr t x i) K = onValS (dval P f S ty (.indexAddr t x i)) K S := by
  unfold dop; exact Eq.trans (Eq.refl _) (Eq.refl _)
theorem dop_index {ty : TypeId} {K : D → St → Prop} (t : TypeId) (x i : Operand) : dop P f S ty (.index t x i) K = onValS (dval P f S ty (.index t x i)) K S := by
  unfold dop; exact Eq.trans (Eq.refl _) (Eq.refl _)
theorem dop_extract {ty : TypeId} {K : D → St → Prop} (x : Operand) (i : Nat) : dop P f S ty (.extract x i) K = onValS (dval P f S ty (.extract x i)) K S := by
  unfold dop; exact Eq.trans (Eq.refl _) (Eq.refl _)
theorem dop_makeFunc {ty : TypeId} {K : D → St → Prop} (fn : Fn) (fs cs : Array Operand) : dop P f S ty (.makeFunc fn fs cs) K = onValS (dval P f S ty (.makeFunc fn fs cs)) K S := by
  unfold dop; exact Eq.trans (Eq.refl _) (Eq.refl _)
theorem dop_makeInterface {ty : TypeId} {K : D → St → Prop} (t : TypeId) (x : Operand) : dop P f S ty (.makeInterface t x) K = onValS (dval P f S ty (.makeInterface t x)) K S := by
  unfold dop; exact Eq.trans (Eq.refl _) (Eq.refl _)
theorem dop_nilCheck {ty : TypeId} {K : D → St → Prop} (x : Operand) : dop P f S ty (.nilCheck x) K = onValS (dval P f S ty (.nilCheck x)) K S := by
  unfold dop; exact Eq.trans (Eq.refl _) (Eq.refl _)
theorem dop_slice {ty : TypeId} {K : D → St → Prop} (t : TypeId) (x : Operand) (lo hi mx : Option Operand) : dop P f S ty (.slice t x lo hi mx) K = onValS (dval P f S ty (.slice t x lo hi mx)) K S := by
  unfold dop; exact Eq.trans (Eq.refl _) (Eq.refl _)
theorem dop_binOp {ty : TypeId} {K : D → St → Prop} (op : BinOp) (t : TypeId) (x y : Operand) (u : TypeId) : dop P f S ty (.binOp op t x y u) K = onValS (dval P f S ty (.binOp op t x y u)) K S := by
  unfold dop; exact Eq.trans (Eq.refl _) (Eq.refl _)
theorem dop_unOp {ty : TypeId} {K : D → St → Prop} (op : UnOp) (t : TypeId) (x : Operand) : dop P f S ty (.unOp op t x) K = onValS (dval P f S ty (.unOp op t x)) K S := by
  unfold dop; exact Eq.trans (Eq.refl _) (Eq.refl _)
theorem dop_convert {ty : TypeId} {K : D → St → Prop} (s t : TypeId) (x : Operand) : dop P f S ty (.convert s t x) K = onValS (orD (dnew P f S (.convert s t x)) (dval P f S ty (.convert s t x))) K S := by
  unfold dop; exact Eq.trans (Eq.refl _) (Eq.refl _)
theorem dop_b_len {ty : TypeId} {K : D → St → Prop} (args : Array Operand) (ts : Array TypeId) : dop P f S ty (.call ⟨.builtin .len, args, ts⟩) K = onValS (dval P f S ty (.call ⟨.builtin .len, args, ts⟩)) K S := by
  unfold dop; exact Eq.trans (Eq.refl _) (Eq.refl _)
theorem dop_b_cap {ty : TypeId} {K : D → St → Prop} (args : Array Operand) (ts : Array TypeId) : dop P f S ty (.call ⟨.builtin .cap, args, ts⟩) K = onValS (dval P f S ty (.call ⟨.builtin .cap, args, ts⟩)) K S := by
  unfold dop; exact Eq.trans (Eq.refl _) (Eq.refl _)
theorem dop_b_min {ty : TypeId} {K : D → St → Prop} (args : Array Operand) (ts : Array TypeId) : dop P f S ty (.call ⟨.builtin .min, args, ts⟩) K = onValS (dval P f S ty (.call ⟨.builtin .min, args, ts⟩)) K S := by
  unfold dop; exact Eq.trans (Eq.refl _) (Eq.refl _)
theorem dop_b_max {ty : TypeId} {K : D → St → Prop} (args : Array Operand) (ts : Array TypeId) : dop P f S ty (.call ⟨.builtin .max, args, ts⟩) K = onValS (dval P f S ty (.call ⟨.builtin .max, args, ts⟩)) K S := by
  unfold dop; exact Eq.trans (Eq.refl _) (Eq.refl _)
theorem dop_buildSlice {ty : TypeId} {K : D → St → Prop} (t : TypeId) (n : Nat) (ps : Array (Nat × Operand)) : dop P f S ty (.buildSlice t n ps) K = onValS (dnew P f S (.buildSlice t n ps)) K S := by
  unfold dop; exact Eq.trans (Eq.refl _) (Eq.refl _)
theorem dop_build {ty : TypeId} {K : D → St → Prop} (t : TypeId) (ps : Array (Nat × Operand)) : dop P f S ty (.build t ps) K = onValS (dnew P f S (.build t ps)) K S := by
  unfold dop; exact Eq.trans (Eq.refl _) (Eq.refl _)
theorem dop_alloc {ty : TypeId} {K : D → St → Prop} (t : TypeId) : dop P f S ty (.alloc t) K = (zeroOk P t = true ∧ K (.loc S.next 0) (S.add (.box t (zeroD P t)))) := Eq.trans (Eq.refl _) (Eq.refl _)
theorem dop_box {ty : TypeId} {K : D → St → Prop} (t : TypeId) (x : Operand) : dop P f S ty (.box t x) K = ((ev f x).okCell = true ∧ K (.loc S.next 0) (S.add (.box t (ev f x).cells))) := Eq.trans (Eq.refl _) (Eq.refl _)
def dstore (P : Program) (S : St) (t : TypeId) (x y : D) (K : D → St → Prop) : Prop := match x with
  | .loc k off => match S.ob k with
    | some (.box t' cs) => y.okCell = true ∧ (P.info? t).isSome = true ∧ y.width = szOf P t ∧ off + szOf P t ≤ cs.length ∧ K undefD (S.set k (.box t' (splice cs off y.cells)))
    | _ => False
  | _ => False
theorem dop_store {ty : TypeId} {K : D → St → Prop} (t : TypeId) (x y : Operand) : dop P f S ty (.store t x y) K = dstore P S t (ev f x) (ev f y) K := Eq.trans (Eq.refl _) (Eq.refl _)
def dcall (P : Program) (S : St) (x : D) (args : List D) (K : D → St → Prop) : Prop := match x with
  | .fn (.func g) fs cs => DCalls P g (fs ++ args ++ cs) S K
  | _ => False
theorem dcall_fn (g : FuncId) (fs args cs : List D) (K : D → St → Prop) : dcall P S (.fn (.func g) fs cs) args K = DCalls P g (fs ++ args ++ cs) S K := Eq.trans (Eq.refl _) (Eq.refl _)
theorem dop_call {ty : TypeId} {K : D → St → Prop} (x : Operand) (args : List Operand) (ts : Array TypeId) : dop P f S ty (.call ⟨.value x, List.toArray args, ts⟩) K = dcall P S (ev f x) (args.map (ev f)) K := Eq.trans (Eq.refl _) (Eq.refl _)
def dappend (P : Program) (S : St) (t tx : TypeId) (x y : D) (K : D → St → Prop) : Prop := match x, y with
  | .sl own es, .sl _ es2 => match elT P t with
    | some e => (elT P tx).isSome = true ∧ zeroT P e = true ∧ (∀ d ∈ es, d.width = szOf P e) ∧ (∀ d ∈ es2, d.width = szOf P e) ∧ (match own with | .full => True | .row g => S.ob g = some (.row e es.length) | .no => False) ∧ es.length + es2.length ≤ 140737488355328 ∧ (es.length + es2.length) * bytesOf P e ≤ 140737488355328 ∧ K (.sl (.row S.next) (es ++ es2)) (S.grow own e (es.length + es2.length))
    | none => False
  | _, _ => False
/-- Append, either way: as a row that grows, or (to nothing) as a variable; onto a slice over a variable. -/
def dapp (P : Program) (S : St) (t tx : TypeId) (ty : TypeId) (x y : D) (K : D → St → Prop) : Prop := match x with
  | .win k off n c => DRun P (fun vs => Builtin.append_ #[t, tx] ty vs.toArray) [.win k off n c, y] S K
  | x => dappend P S t tx x y K ∨ match x, y with
    | .sl own es, .sl o2 es2 => match elT P t with
      | some e => appWin P S e tx own es es2 K ∨ DRun P (fun vs => Builtin.append_ #[t, tx] ty vs.toArray) [.sl own es, .sl o2 es2] S K
      | none => False
    | _, _ => False
theorem dapp_row {t tx ty : TypeId} {own : Own} {es : List D} {y : D} {K : D → St → Prop} (h : dappend P S t tx (.sl own es) y K) : dapp P S t tx ty (.sl own es) y K := .inl h
theorem dapp_win {t tx ty : TypeId} {own : Own} {es es2 : List D} {e : TypeId} {K : D → St → Prop} (he : elT P t = some e) (h : appWin P S e tx own es es2 K) {o2 : Own} : dapp P S t tx ty (.sl own es) (.sl o2 es2) K := .inr (by simp only [he]; exact .inl h)
theorem dapp_step {t tx ty : TypeId} {own o2 : Own} {es es2 : List D} {e : TypeId} {K : D → St → Prop} (he : elT P t = some e) (h : DRun P (fun vs => Builtin.append_ #[t, tx] ty vs.toArray) [.sl own es, .sl o2 es2] S K) : dapp P S t tx ty (.sl own es) (.sl o2 es2) K := .inr (by simp only [he]; exact .inr h)
theorem dop_append {ty : TypeId} {K : D → St → Prop} (x y : Operand) (t tx : TypeId) : dop P f S ty (.call ⟨.builtin .append, #[x, y], #[t, tx]⟩) K = dapp P S t tx ty (ev f x) (ev f y) K := by
  simp only [dop, List.map_cons, List.map_nil]
  generalize ev f x = a
  generalize ev f y = b
  cases a <;> first | rfl | (simp only [dapp, dappend]; cases he : elT P t <;> cases b <;> (try simp only [he, or_false, false_or, or_self]) <;> rfl)
def dcopy (P : Program) (ts : Array TypeId) (ty : TypeId) (x y : D) (S : St) (K : D → St → Prop) : Prop := DRun P (fun vs => Builtin.copy_ ts ty vs.toArray) [x, y] S K
theorem dop_copy {ty : TypeId} {K : D → St → Prop} (x y : Operand) (ts : Array TypeId) : dop P f S ty (.call ⟨.builtin .copy, #[x, y], ts⟩) K = dcopy P ts ty (ev f x) (ev f y) S K := Eq.trans (Eq.refl _) (Eq.refl _)
def dclear (P : Program) (ts : Array TypeId) (ty : TypeId) (x : D) (S : St) (K : D → St → Prop) : Prop := DRun P (fun vs => Builtin.clear_ ts ty vs.toArray) [x] S K
theorem dop_clear {ty : TypeId} {K : D → St → Prop} (x : Operand) (ts : Array TypeId) : dop P f S ty (.call ⟨.builtin .clear, #[x], ts⟩) K = dclear P ts ty (ev f x) S K := Eq.trans (Eq.refl _) (Eq.refl _)
theorem list_of_array {α : Type} (l : List α) : (List.toArray l).toList = l := Eq.trans (Eq.refl _) (Eq.refl _)
theorem add_next (S : St) (o : Ob) : (S.add o).next = S.next + 1 := Eq.trans (Eq.refl _) (Eq.refl _)
theorem add_ob (S : St) (o : Ob) (k : Nat) : (S.add o).ob k = if k = S.next then some o else S.ob k := Eq.trans (Eq.refl _) (Eq.refl _)
theorem set_next (S : St) (k : Nat) (o : Ob) : (S.set k o).next = S.next := Eq.trans (Eq.refl _) (Eq.refl _)
theorem set_ob (S : St) (k j : Nat) (o : Ob) : (S.set k o).ob j = if j = k then some o else S.ob j := Eq.trans (Eq.refl _) (Eq.refl _)
theorem grow_next (S : St) (own : Own) (e : TypeId) (n : Nat) : (S.grow own e n).next = S.next + 1 := by cases own <;> rfl
theorem grow_full_ob (S : St) (e : TypeId) (n k : Nat) : (S.grow .full e n).ob k = if k = S.next then some (.row e n) else S.ob k := Eq.trans (Eq.refl _) (Eq.refl _)
theorem grow_row_ob (S : St) (g : Nat) (e : TypeId) (n k : Nat) : (S.grow (.row g) e n).ob k = if k = S.next then some (.row e n) else if k = g then none else S.ob k := Eq.trans (Eq.refl _) (Eq.refl _)
/-- A round's end: what holds at its head holds again, some names given up. -/
def dround (I : Fm → St → Prop) (μ : Fm → St → Nat) (n : Nat) (f' : Fm) (S' : St) : Prop := ∃ S'' : St, (S''.next = S'.next ∧ ∀ k o, S''.ob k = some o → S'.ob k = some o) ∧ I f' S'' ∧ μ f' S'' < n
theorem dloop_mk {body : DQ → Fm → St → Prop} (I : Fm → St → Prop) (μ : Fm → St → Nat) (h0 : I f S)
    (hr : ∀ g T, I g T → body (DQ.then (dround I μ (μ g T)) Q) g T) : DLoop body Q f S := ⟨I, μ, h0, hr⟩
/-- The names of the round are given up. -/
theorem round_back {I : Fm → St → Prop} {μ : Fm → St → Nat} {n : Nat} {f' : Fm} {S' : St} (ob : Nat → Option Ob) (hs : ∀ k o, ob k = some o → S'.ob k = some o) (h : I f' ⟨S'.next, ob⟩) (hm : μ f' ⟨S'.next, ob⟩ < n) : dround I μ n f' S' := ⟨⟨S'.next, ob⟩, ⟨rfl, hs⟩, h, hm⟩
def slotN (d : D) : Nat := match d with
  | .v (.int _ q) => q.toNat
  | _ => 0
theorem slotN_int (k : IntKind) (n : Nat) : slotN (.v (.int k n)) = n := by simp [slotN]
theorem slotN_succ (k : IntKind) (n : Nat) : slotN (.v (.int k ((n : Int) + 1))) = n + 1 := by simp [slotN]
theorem getD_map {α : Type} (g : α → D) (l : List α) (i : Nat) (h : i < l.length) : (l.map g).getD i undefD = g l[i] := by simp [List.getD, h]
/-! Ends. -/
theorem pfin_ret (t : Tmp) (S' : St) (d : D) : DQ.pfin P [.tmp t] S d .ret f S' = PFin S S' (f t) d := by
  simp [DQ.pfin, dresL, dres, onVal, one]
theorem pfin_normal (t : Tmp) (S' : St) (d : D) : DQ.pfin P [.tmp t] S d .normal f S' = PFin S S' (f t) d := by
  simp [DQ.pfin, dresL, dres, onVal, one]
theorem pfin_ret2 (t u : Tmp) (S' : St) (d : D) : DQ.pfin P [.tmp t, .tmp u] S d .ret f S' = PFin S S' (.tup [f t, f u]) d := by
  simp [DQ.pfin, dresL, dres, onVal, one]
theorem pfin_normal2 (t u : Tmp) (S' : St) (d : D) : DQ.pfin P [.tmp t, .tmp u] S d .normal f S' = PFin S S' (.tup [f t, f u]) d := by
  simp [DQ.pfin, dresL, dres, onVal, one]
end

/-! A region that draws its order. -/
section
variable {P : Program} {f : Fm} {S : St}
def hnext (P : Program) (ops : Array Oper) (S : St) (R : Fm → St → Prop) (r : List Oper) (f : Fm) (dst : Option Tmp) (u : Option Ob) (d : D) : Prop := dhead P ops S R r (put f dst d) u
theorem hnext_eq (ops : Array Oper) (R : Fm → St → Prop) (r : List Oper) (dst : Option Tmp) (u : Option Ob) (d : D) : hnext P ops S R r f dst u d = dhead P ops S R r (put f dst d) u := Eq.trans (Eq.refl _) (Eq.refl _)
def hnextN (P : Program) (ops : Array Oper) (S : St) (R : Fm → St → Prop) (r : List Oper) (f : Fm) (dst : Option Tmp) (d : D) (u : Option Ob) : Prop := dhead P ops S R r (put f dst d) u
theorem hnextN_eq (ops : Array Oper) (R : Fm → St → Prop) (r : List Oper) (dst : Option Tmp) (u : Option Ob) (d : D) : hnextN P ops S R r f dst d u = dhead P ops S R r (put f dst d) u := Eq.trans (Eq.refl _) (Eq.refl _)
def hAt (K : D → Option Ob → Prop) (u : Option Ob) (d : D) : Prop := K d u
theorem hAt_eq (K : D → Option Ob → Prop) (u : Option Ob) (d : D) : hAt K u d = K d u := Eq.trans (Eq.refl _) (Eq.refl _)
def hskip (P : Program) (ops : Array Oper) (S : St) (R : Fm → St → Prop) (r : List Oper) (f : Fm) (dst : Option Tmp) (u : Option Ob) : Prop := dhead P ops S R r (put f dst undefD) u
def dquietF (P : Program) (f : Fm) (S : St) (ty : TypeId) (op : Op) (K : D → Prop) : Prop := dquiet P f S ty op K
def dtail (P : Program) (l : List Oper) (R : Fm → St → Prop) (n : Nat) (f : Fm) (S : St) : Prop := dops P (List.toArray l) R (l.drop n) f S
theorem dtail_eq (l : List Oper) (R : Fm → St → Prop) (n : Nat) : dtail P l R n f S = dops P (List.toArray l) R (l.drop n) f S := Eq.trans (Eq.refl _) (Eq.refl _)
theorem ddraw_mk (n : Nat) {l : List Oper} {R : Fm → St → Prop} (h : drawOk l n = true) (k : dhead P (List.toArray (l.take n)) S (dtail P l R n) (l.take n) f none) : ddraw P l R f S := .inl ⟨n, h, k⟩
theorem ddraw_any (Zs : St → Prop) (n : Nat) {l : List Oper} {R : Fm → St → Prop} (hz : Zs S) (h : (n == l.length || heldTailB l n) = true) (k : sAny P .any (List.toArray (l.take n)) Zs (dtail P l R n) (List.toArray (l.take n)).size (Array.replicate (List.toArray (l.take n)).size false) f S) : ddraw P l R f S := .inr ⟨Zs, n, hz, h, k⟩
theorem after_none (S : St) : after S none = S := Eq.trans (Eq.refl _) (Eq.refl _)
theorem after_some (S : St) (b : Ob) : after S (some b) = S.add b := Eq.trans (Eq.refl _) (Eq.refl _)
theorem dhead_nil (ops : Array Oper) (R : Fm → St → Prop) (u : Option Ob) : dhead P ops S R [] f u = R f (after S u) := Eq.trans (Eq.refl _) (Eq.refl _)
theorem dhead_plain (ops : Array Oper) (R : Fm → St → Prop) (r : List Oper) (dst : Option Tmp) (op : Op) (ty : TypeId) (pos : String) (aft : Array Edge) (u : Option Ob) : dhead P ops S R (⟨dst, op, ty, pos, aft, none⟩ :: r) f u = hop P f S u ty op (hnextN P ops S R r f dst) := Eq.trans (Eq.refl _) (Eq.refl _)
theorem dhead_guard (l : List Oper) (R : Fm → St → Prop) (r : List Oper) (dst : Option Tmp) (op : Op) (ty : TypeId) (pos : String) (aft : Array Edge) (j : Nat) (want : Bool) (u : Option Ob) :
    dhead P (List.toArray l) S R (⟨dst, op, ty, pos, aft, some (j, want)⟩ :: r) f u = dguardT (gtmp l j) f want (dquietF P f S ty op (hnext P (List.toArray l) S R r f dst u)) (hskip P (List.toArray l) S R r f dst u) := by
  rw [← gtmp_eq]; rfl
theorem hop_alloc {ty : TypeId} {K : D → Option Ob → Prop} (t : TypeId) : hop P f S none ty (.alloc t) K = (zeroOk P t = true ∧ K (.loc S.next 0) (some (.box t (zeroD P t)))) := by simp [hop]
theorem hop_box {ty : TypeId} {K : D → Option Ob → Prop} (t : TypeId) (x : Operand) : hop P f S none ty (.box t x) K = ((ev f x).okCell = true ∧ K (.loc S.next 0) (some (.box t (ev f x).cells))) := by simp [hop]
theorem hop_call {ty : TypeId} {K : D → Option Ob → Prop} {uo : Option Ob} (x : Operand) (args : List Operand) (ts : Array TypeId) : hop P f S uo ty (.call ⟨.value x, List.toArray args, ts⟩) K = dquiet P f S ty (.call ⟨.value x, List.toArray args, ts⟩) (hAt K uo) := Eq.trans (Eq.refl _) (Eq.refl _)
theorem hop_append {ty : TypeId} {K : D → Option Ob → Prop} {uo : Option Ob} (args : Array Operand) (ts : Array TypeId) : hop P f S uo ty (.call ⟨.builtin .append, args, ts⟩) K = dquiet P f S ty (.call ⟨.builtin .append, args, ts⟩) (hAt K uo) := Eq.trans (Eq.refl _) (Eq.refl _)
theorem hop_buildSlice {ty : TypeId} {K : D → Option Ob → Prop} {uo : Option Ob} (t : TypeId) (n : Nat) (ps : Array (Nat × Operand)) : hop P f S uo ty (.buildSlice t n ps) K = dquiet P f S ty (.buildSlice t n ps) (hAt K uo) := Eq.trans (Eq.refl _) (Eq.refl _)
theorem hop_build {ty : TypeId} {K : D → Option Ob → Prop} {uo : Option Ob} (t : TypeId) (ps : Array (Nat × Operand)) : hop P f S uo ty (.build t ps) K = dquiet P f S ty (.build t ps) (hAt K uo) := Eq.trans (Eq.refl _) (Eq.refl _)
theorem hop_move {ty : TypeId} {K : D → Option Ob → Prop} {uo : Option Ob} (x : Operand) : hop P f S uo ty (.move x) K = dquiet P f S ty (.move x) (hAt K uo) := Eq.trans (Eq.refl _) (Eq.refl _)
theorem hop_assign {ty : TypeId} {K : D → Option Ob → Prop} {uo : Option Ob} (x : Operand) : hop P f S uo ty (.assign x) K = dquiet P f S ty (.assign x) (hAt K uo) := Eq.trans (Eq.refl _) (Eq.refl _)
theorem hop_pick {ty : TypeId} {K : D → Option Ob → Prop} {uo : Option Ob} (c x y : Operand) : hop P f S uo ty (.pick c x y) K = dquiet P f S ty (.pick c x y) (hAt K uo) := Eq.trans (Eq.refl _) (Eq.refl _)
theorem hop_load {ty : TypeId} {K : D → Option Ob → Prop} {uo : Option Ob} (t : TypeId) (x : Operand) : hop P f S uo ty (.load t x) K = dquiet P f S ty (.load t x) (hAt K uo) := Eq.trans (Eq.refl _) (Eq.refl _)
theorem hop_fieldAddr {ty : TypeId} {K : D → Option Ob → Prop} {uo : Option Ob} (t : TypeId) (x : Operand) (i : Nat) : hop P f S uo ty (.fieldAddr t x i) K = dquiet P f S ty (.fieldAddr t x i) (hAt K uo) := Eq.trans (Eq.refl _) (Eq.refl _)
theorem hop_field {ty : TypeId} {K : D → Option Ob → Prop} {uo : Option Ob} (t : TypeId) (x : Operand) (i : Nat) : hop P f S uo ty (.field t x i) K = dquiet P f S ty (.field t x i) (hAt K uo) := Eq.trans (Eq.refl _) (Eq.refl _)
theorem hop_indexAddr {ty : TypeId} {K : D → Option Ob → Prop} {uo : Option Ob} (t : TypeId) (x i : Operand) : hop P f S uo ty (.indexAddr t x i) K = dquiet P f S ty (.indexAddr t x i) (hAt K uo) := Eq.trans (Eq.refl _) (Eq.refl _)
theorem hop_index {ty : TypeId} {K : D → Option Ob → Prop} {uo : Option Ob} (t : TypeId) (x i : Operand) : hop P f S uo ty (.index t x i) K = dquiet P f S ty (.index t x i) (hAt K uo) := Eq.trans (Eq.refl _) (Eq.refl _)
theorem hop_extract {ty : TypeId} {K : D → Option Ob → Prop} {uo : Option Ob} (x : Operand) (i : Nat) : hop P f S uo ty (.extract x i) K = dquiet P f S ty (.extract x i) (hAt K uo) := Eq.trans (Eq.refl _) (Eq.refl _)
theorem hop_makeFunc {ty : TypeId} {K : D → Option Ob → Prop} {uo : Option Ob} (fn : Fn) (fs cs : Array Operand) : hop P f S uo ty (.makeFunc fn fs cs) K = dquiet P f S ty (.makeFunc fn fs cs) (hAt K uo) := Eq.trans (Eq.refl _) (Eq.refl _)
theorem hop_makeInterface {ty : TypeId} {K : D → Option Ob → Prop} {uo : Option Ob} (t : TypeId) (x : Operand) : hop P f S uo ty (.makeInterface t x) K = dquiet P f S ty (.makeInterface t x) (hAt K uo) := Eq.trans (Eq.refl _) (Eq.refl _)
theorem hop_nilCheck {ty : TypeId} {K : D → Option Ob → Prop} {uo : Option Ob} (x : Operand) : hop P f S uo ty (.nilCheck x) K = dquiet P f S ty (.nilCheck x) (hAt K uo) := Eq.trans (Eq.refl _) (Eq.refl _)
theorem hop_slice {ty : TypeId} {K : D → Option Ob → Prop} {uo : Option Ob} (t : TypeId) (x : Operand) (lo hi mx : Option Operand) : hop P f S uo ty (.slice t x lo hi mx) K = dquiet P f S ty (.slice t x lo hi mx) (hAt K uo) := Eq.trans (Eq.refl _) (Eq.refl _)
theorem hop_binOp {ty : TypeId} {K : D → Option Ob → Prop} {uo : Option Ob} (op : BinOp) (t : TypeId) (x y : Operand) (u : TypeId) : hop P f S uo ty (.binOp op t x y u) K = dquiet P f S ty (.binOp op t x y u) (hAt K uo) := Eq.trans (Eq.refl _) (Eq.refl _)
theorem hop_unOp {ty : TypeId} {K : D → Option Ob → Prop} {uo : Option Ob} (op : UnOp) (t : TypeId) (x : Operand) : hop P f S uo ty (.unOp op t x) K = dquiet P f S ty (.unOp op t x) (hAt K uo) := Eq.trans (Eq.refl _) (Eq.refl _)
theorem hop_convert {ty : TypeId} {K : D → Option Ob → Prop} {uo : Option Ob} (s t : TypeId) (x : Operand) : hop P f S uo ty (.convert s t x) K = dquiet P f S ty (.convert s t x) (hAt K uo) := Eq.trans (Eq.refl _) (Eq.refl _)
theorem hop_b_len {ty : TypeId} {K : D → Option Ob → Prop} {uo : Option Ob} (args : Array Operand) (ts : Array TypeId) : hop P f S uo ty (.call ⟨.builtin .len, args, ts⟩) K = dquiet P f S ty (.call ⟨.builtin .len, args, ts⟩) (hAt K uo) := Eq.trans (Eq.refl _) (Eq.refl _)
theorem hop_b_cap {ty : TypeId} {K : D → Option Ob → Prop} {uo : Option Ob} (args : Array Operand) (ts : Array TypeId) : hop P f S uo ty (.call ⟨.builtin .cap, args, ts⟩) K = dquiet P f S ty (.call ⟨.builtin .cap, args, ts⟩) (hAt K uo) := Eq.trans (Eq.refl _) (Eq.refl _)
theorem hop_b_min {ty : TypeId} {K : D → Option Ob → Prop} {uo : Option Ob} (args : Array Operand) (ts : Array TypeId) : hop P f S uo ty (.call ⟨.builtin .min, args, ts⟩) K = dquiet P f S ty (.call ⟨.builtin .min, args, ts⟩) (hAt K uo) := Eq.trans (Eq.refl _) (Eq.refl _)
theorem hop_b_max {ty : TypeId} {K : D → Option Ob → Prop} {uo : Option Ob} (args : Array Operand) (ts : Array TypeId) : hop P f S uo ty (.call ⟨.builtin .max, args, ts⟩) K = dquiet P f S ty (.call ⟨.builtin .max, args, ts⟩) (hAt K uo) := Eq.trans (Eq.refl _) (Eq.refl _)
section
variable {y n : Prop} {ty : TypeId} {op : Op} {K : D → Prop} {ops : Array Oper} {R : Fm → St → Prop} {r : List Oper} {dst : Option Tmp} {u : Option Ob}
theorem hg_tt : dguard (.v (.bool true)) true (dquietF P f S ty op K) n = dquiet P f S ty op K := by simp [dguard, dquietF]
theorem hg_ff : dguard (.v (.bool false)) false (dquietF P f S ty op K) n = dquiet P f S ty op K := by simp [dguard, dquietF]
theorem hg_tf : dguard (.v (.bool true)) false y (hskip P ops S R r f dst u) = dhead P ops S R r (put f dst undefD) u := by simp [dguard, hskip]
theorem hg_ft : dguard (.v (.bool false)) true y (hskip P ops S R r f dst u) = dhead P ops S R r (put f dst undefD) u := by simp [dguard, hskip]
theorem hg_no (want : Bool) : dguard undefD want y (hskip P ops S R r f dst u) = dhead P ops S R r (put f dst undefD) u := Eq.trans (Eq.refl _) (Eq.refl _)
end
def dqcall (P : Program) (S : St) (x : D) (args : List D) (K : D → Prop) : Prop := match x with
  | .fn (.func g) fs cs => ∃ d, DSt P g (fs ++ args ++ cs) S d ∧ K d
  | _ => False
def dqgo (P : Program) (S : St) (g : FuncId) (args : List D) (K : D → Prop) : Prop := ∃ d, DSt P g args S d ∧ K d
theorem dqcall_fn (g : FuncId) (fs args cs : List D) (K : D → Prop) : dqcall P S (.fn (.func g) fs cs) args K = dqgo P S g (fs ++ args ++ cs) K := Eq.trans (Eq.refl _) (Eq.refl _)
theorem dqgo_mk {g : FuncId} {args : List D} {K : D → Prop} {d : D} (h : DPure P g args d) (k : K d) : dqgo P S g args K := ⟨d, h.st, k⟩
theorem dq_call {ty : TypeId} {K : D → Prop} (x : Operand) (args : List Operand) (ts : Array TypeId) : dquiet P f S ty (.call ⟨.value x, List.toArray args, ts⟩) K = dqcall P S (ev f x) (args.map (ev f)) K := Eq.trans (Eq.refl _) (Eq.refl _)
theorem dq_append {ty : TypeId} {K : D → Prop} (args : Array Operand) (ts : Array TypeId) : dquiet P f S ty (.call ⟨.builtin .append, args, ts⟩) K = onVal2 (dnew P f S (.call ⟨.builtin .append, args, ts⟩)) (dval P f S ty (.call ⟨.builtin .append, args, ts⟩)) K := Eq.trans (Eq.refl _) (Eq.refl _)
theorem onVal2_some (c : Prop) (d : D) (o : Option (Prop × D)) (K : D → Prop) : onVal2 (some (c, d)) o K = (c ∧ K d) := Eq.trans (Eq.refl _) (Eq.refl _)
theorem dq_buildSlice {ty : TypeId} {K : D → Prop} (t : TypeId) (n : Nat) (ps : Array (Nat × Operand)) : dquiet P f S ty (.buildSlice t n ps) K = onVal2 (dnew P f S (.buildSlice t n ps)) (dval P f S ty (.buildSlice t n ps)) K := Eq.trans (Eq.refl _) (Eq.refl _)
theorem dq_build {ty : TypeId} {K : D → Prop} (t : TypeId) (ps : Array (Nat × Operand)) : dquiet P f S ty (.build t ps) K = onVal2 (dnew P f S (.build t ps)) (dval P f S ty (.build t ps)) K := Eq.trans (Eq.refl _) (Eq.refl _)
theorem dq_move {ty : TypeId} {K : D → Prop} (x : Operand) : dquiet P f S ty (.move x) K = onVal (dval P f S ty (.move x)) K := Eq.trans (Eq.refl _) (Eq.refl _)
theorem dq_assign {ty : TypeId} {K : D → Prop} (x : Operand) : dquiet P f S ty (.assign x) K = onVal (dval P f S ty (.assign x)) K := Eq.trans (Eq.refl _) (Eq.refl _)
theorem dq_pick {ty : TypeId} {K : D → Prop} (c x y : Operand) : dquiet P f S ty (.pick c x y) K = onVal (dval P f S ty (.pick c x y)) K := Eq.trans (Eq.refl _) (Eq.refl _)
theorem dq_load {ty : TypeId} {K : D → Prop} (t : TypeId) (x : Operand) : dquiet P f S ty (.load t x) K = onVal (dval P f S ty (.load t x)) K := Eq.trans (Eq.refl _) (Eq.refl _)
theorem dq_fieldAddr {ty : TypeId} {K : D → Prop} (t : TypeId) (x : Operand) (i : Nat) : dquiet P f S ty (.fieldAddr t x i) K = onVal (dval P f S ty (.fieldAddr t x i)) K := Eq.trans (Eq.refl _) (Eq.refl _)
theorem dq_field {ty : TypeId} {K : D → Prop} (t : TypeId) (x : Operand) (i : Nat) : dquiet P f S ty (.field t x i) K = onVal (dval P f S ty (.field t x i)) K := Eq.trans (Eq.refl _) (Eq.refl _)
theorem dq_indexAddr {ty : TypeId} {K : D → Prop} (t : TypeId) (x i : Operand) : dquiet P f S ty (.indexAddr t x i) K = onVal (dval P f S ty (.indexAddr t x i)) K := Eq.trans (Eq.refl _) (Eq.refl _)
theorem dq_index {ty : TypeId} {K : D → Prop} (t : TypeId) (x i : Operand) : dquiet P f S ty (.index t x i) K = onVal (dval P f S ty (.index t x i)) K := Eq.trans (Eq.refl _) (Eq.refl _)
theorem dq_extract {ty : TypeId} {K : D → Prop} (x : Operand) (i : Nat) : dquiet P f S ty (.extract x i) K = onVal (dval P f S ty (.extract x i)) K := Eq.trans (Eq.refl _) (Eq.refl _)
theorem dq_makeFunc {ty : TypeId} {K : D → Prop} (fn : Fn) (fs cs : Array Operand) : dquiet P f S ty (.makeFunc fn fs cs) K = onVal (dval P f S ty (.makeFunc fn fs cs)) K := Eq.trans (Eq.refl _) (Eq.refl _)
theorem dq_makeInterface {ty : TypeId} {K : D → Prop} (t : TypeId) (x : Operand) : dquiet P f S ty (.makeInterface t x) K = onVal (dval P f S ty (.makeInterface t x)) K := Eq.trans (Eq.refl _) (Eq.refl _)
theorem dq_nilCheck {ty : TypeId} {K : D → Prop} (x : Operand) : dquiet P f S ty (.nilCheck x) K = onVal (dval P f S ty (.nilCheck x)) K := Eq.trans (Eq.refl _) (Eq.refl _)
theorem dq_slice {ty : TypeId} {K : D → Prop} (t : TypeId) (x : Operand) (lo hi mx : Option Operand) : dquiet P f S ty (.slice t x lo hi mx) K = onVal (dval P f S ty (.slice t x lo hi mx)) K := Eq.trans (Eq.refl _) (Eq.refl _)
theorem dq_binOp {ty : TypeId} {K : D → Prop} (op : BinOp) (t : TypeId) (x y : Operand) (u : TypeId) : dquiet P f S ty (.binOp op t x y u) K = onVal (dval P f S ty (.binOp op t x y u)) K := Eq.trans (Eq.refl _) (Eq.refl _)
theorem dq_unOp {ty : TypeId} {K : D → Prop} (op : UnOp) (t : TypeId) (x : Operand) : dquiet P f S ty (.unOp op t x) K = onVal (dval P f S ty (.unOp op t x)) K := Eq.trans (Eq.refl _) (Eq.refl _)
theorem onVal_orD {a b : Option (Prop × D)} {K : D → Prop} : onVal2 a b K = onVal (orD a b) K := by cases a <;> rfl
theorem dq_convert {ty : TypeId} {K : D → Prop} (s t : TypeId) (x : Operand) : dquiet P f S ty (.convert s t x) K = onVal (orD (dnew P f S (.convert s t x)) (dval P f S ty (.convert s t x))) K := Eq.trans (Eq.trans (Eq.refl _) onVal_orD) (Eq.refl _)
theorem dq_b_len {ty : TypeId} {K : D → Prop} (args : Array Operand) (ts : Array TypeId) : dquiet P f S ty (.call ⟨.builtin .len, args, ts⟩) K = onVal (dval P f S ty (.call ⟨.builtin .len, args, ts⟩)) K := Eq.trans (Eq.refl _) (Eq.refl _)
theorem dq_b_cap {ty : TypeId} {K : D → Prop} (args : Array Operand) (ts : Array TypeId) : dquiet P f S ty (.call ⟨.builtin .cap, args, ts⟩) K = onVal (dval P f S ty (.call ⟨.builtin .cap, args, ts⟩)) K := Eq.trans (Eq.refl _) (Eq.refl _)
theorem dq_b_min {ty : TypeId} {K : D → Prop} (args : Array Operand) (ts : Array TypeId) : dquiet P f S ty (.call ⟨.builtin .min, args, ts⟩) K = onVal (dval P f S ty (.call ⟨.builtin .min, args, ts⟩)) K := Eq.trans (Eq.refl _) (Eq.refl _)
theorem dq_b_max {ty : TypeId} {K : D → Prop} (args : Array Operand) (ts : Array TypeId) : dquiet P f S ty (.call ⟨.builtin .max, args, ts⟩) K = onVal (dval P f S ty (.call ⟨.builtin .max, args, ts⟩)) K := Eq.trans (Eq.refl _) (Eq.refl _)
end
theorem width_len (d : D) : d.width = d.cells.length := Eq.trans (Eq.refl _) (Eq.refl _)
theorem cells_agg_ (cs : List D) : (D.agg cs).cells = cs := Eq.trans (Eq.refl _) (Eq.refl _)
theorem cells_v_ (x : Value) : (D.v x).cells = [D.v x] := Eq.trans (Eq.refl _) (Eq.refl _)
theorem cells_tup_ (cs : List D) : (D.tup cs).cells = [D.tup cs] := Eq.trans (Eq.refl _) (Eq.refl _)
theorem cells_fn_ (g : Fn) (fs cs : List D) : (D.fn g fs cs).cells = [D.fn g fs cs] := Eq.trans (Eq.refl _) (Eq.refl _)
theorem okCell_fn_ (g : Fn) (fs cs : List D) : (D.fn g fs cs).okCell = true := Eq.trans (Eq.refl _) (Eq.refl _)
theorem cells_ifc_ (t : TypeId) (d : D) : (D.ifc t d).cells = [D.ifc t d] := Eq.trans (Eq.refl _) (Eq.refl _)
theorem okCell_ifc_ (t : TypeId) (d : D) : (D.ifc t d).okCell = true := Eq.trans (Eq.refl _) (Eq.refl _)
theorem cells_loc_ (k o : Nat) : (D.loc k o).cells = [D.loc k o] := Eq.trans (Eq.refl _) (Eq.refl _)
theorem okCell_loc_ (k o : Nat) : (D.loc k o).okCell = true := Eq.trans (Eq.refl _) (Eq.refl _)
theorem cells_rd_ (cs : List D) (o : Nat) : (D.rd cs o).cells = [D.rd cs o] := Eq.trans (Eq.refl _) (Eq.refl _)
theorem okCell_rd_ (cs : List D) (o : Nat) : (D.rd cs o).okCell = true := Eq.trans (Eq.refl _) (Eq.refl _)
theorem cells_sl_ (o : Own) (es : List D) : (D.sl o es).cells = [D.sl o es] := Eq.trans (Eq.refl _) (Eq.refl _)
theorem okCell_sl_ (o : Own) (es : List D) : (D.sl o es).okCell = true := Eq.trans (Eq.refl _) (Eq.refl _)
theorem okCell_agg_ (cs : List D) : (D.agg cs).okCell = true := Eq.trans (Eq.refl _) (Eq.refl _)
theorem okCell_bool_ (b : Bool) : (D.v (.bool b)).okCell = true := Eq.trans (Eq.refl _) (Eq.refl _)
theorem okCell_int_ (k : IntKind) (n : Int) : (D.v (.int k n)).okCell = true := Eq.trans (Eq.refl _) (Eq.refl _)
theorem okCell_string_ (s : ByteArray) : (D.v (.string s)).okCell = true := Eq.trans (Eq.refl _) (Eq.refl _)
theorem okCell_pointer_ (x : Option Addr) : (D.v (.pointer x)).okCell = true := Eq.trans (Eq.refl _) (Eq.refl _)
theorem okCell_slice_ (x : Option Addr) (n m : Nat) : (D.v (.slice x n m)).okCell = true := Eq.trans (Eq.refl _) (Eq.refl _)
theorem okCell_nilFunc_  : (D.v (.nilFunc)).okCell = true := Eq.trans (Eq.refl _) (Eq.refl _)
theorem okCell_nilIface_  : (D.v (.nilIface)).okCell = true := Eq.trans (Eq.refl _) (Eq.refl _)
theorem okCell_float_ (k : FloatKind) (n : Nat) : (D.v (.float k n)).okCell = true := Eq.trans (Eq.refl _) (Eq.refl _)
theorem okCell_map_ (r : Option Nat) : (D.v (.map r)).okCell = true := Eq.trans (Eq.refl _) (Eq.refl _)
theorem okCell_func_ (g : Fn) (x y : Array Value) : (D.v (.func g x y)).okCell = true := Eq.trans (Eq.refl _) (Eq.refl _)
theorem okCell_iface_ (t : TypeId) (x : Value) : (D.v (.iface t x)).okCell = true := Eq.trans (Eq.refl _) (Eq.refl _)
attribute [go_sem_proc] Nat.reduceBEq Nat.reduceAdd Nat.reduceLeDiff Nat.reduceEqDiff Nat.reduceLT
attribute [go_sem_proc ↓] reduceIte
attribute [go_sem] width_len cells_agg_ cells_v_ cells_tup_ cells_fn_ okCell_fn_ cells_ifc_ okCell_ifc_ cells_loc_ okCell_loc_ cells_rd_ okCell_rd_ cells_sl_ okCell_sl_ okCell_agg_ okCell_bool_ okCell_int_ okCell_string_ okCell_pointer_ okCell_slice_ okCell_nilFunc_ okCell_nilIface_ okCell_float_ okCell_map_ okCell_func_ okCell_iface_
attribute [go_sem] hnext_eq hnextN_eq hAt_eq after_none after_some hop_alloc hop_box hop_call hop_append hop_buildSlice hop_build hop_move hop_assign hop_pick hop_load hop_fieldAddr hop_field hop_indexAddr hop_index hop_extract hop_makeFunc hop_makeInterface hop_nilCheck hop_slice hop_binOp hop_unOp hop_convert hop_b_len hop_b_cap hop_b_min hop_b_max dtail_eq dhead_nil dhead_plain dhead_guard hg_tt hg_ff hg_tf hg_ft hg_no dqcall_fn dq_call dq_append onVal2_some onVal_some dq_buildSlice dq_build dq_move dq_assign dq_pick dq_load dq_fieldAddr dq_field dq_indexAddr dq_index dq_extract dq_makeFunc dq_makeInterface dq_nilCheck dq_slice dq_binOp dq_unOp dq_convert dq_b_len dq_b_cap dq_b_min dq_b_max
attribute [go_sem] bin_leql bin_lneq bin_ieql bin_ineq bin_ifc orD_some orD_none
attribute [go_sem] decide_true decide_false pureRun_pure Bool.not_true Bool.not_false Bool.true_or Bool.false_or Bool.or_true Bool.or_false Bool.true_and Bool.false_and Bool.and_true Bool.and_false dg_tt dg_ff dg_tf dg_ft dg_no dIf_t dIf_f slotN_int slotN_succ List.length_map Int.toNat_natCast dwp_skip dwp_label dwp_exit dwp_ret dwp_seq dwp_block dwp_loop dwp_cond dwp_region dwp_draw then_normal then_exit then_ret block_normal block_ret block_eq block_ne dnext_eq gtmp_zero gtmp_succ dguardT_some dops_nil dops_plain dops_guard onValS_some dop_move dop_assign dop_pick dop_load dop_fieldAddr dop_field dop_indexAddr dop_index dop_extract dop_makeFunc dop_makeInterface dop_nilCheck dop_slice dop_binOp dop_unOp dop_convert dop_b_len dop_b_cap dop_b_min dop_b_max dop_buildSlice dop_build dop_alloc dop_box dop_store dop_call dop_append dop_copy dop_clear winOff_zero dcall_fn put_eq put_ne put_none argF_zero argF_succ argF_nil ofV_int ofV_bool ofV_string ofV_nil ofV_iface ofV_func ofV_ptr bin_add bin_sub bin_mul bin_eql bin_neq bin_lss bin_leq bin_gtr bin_geq bin_seql bin_sneq bin_slss bin_sgtr bin_sleq bin_sgeq un_not un_neg bu_max bu_min add_next set_next grow_next grow_full_ob grow_row_ob pfin_ret pfin_normal pfin_ret2 pfin_normal2 list_of_array dstore dappend dval dnew ev rdOk rdVal splice true_and and_true cond_true cond_false List.map_cons List.map_nil List.length_cons List.length_nil List.take_succ_cons List.take_zero List.drop_succ_cons List.drop_zero List.getD_cons_zero List.getD_cons_succ List.cons_append List.nil_append List.append_nil ne_eq not_false_eq_true Nat.zero_add Nat.add_zero Option.map_some
section
theorem fillD_nil (pl : Nat → Option (Nat × Nat)) (cs : List D) : fillD pl cs [] = (True, cs) := by unfold fillD; exact Eq.trans (Eq.refl _) (Eq.refl _)
def fillS (o : Option (Nat × Nat)) (pl : Nat → Option (Nat × Nat)) (cs : List D) (d : D) (r : List (Nat × D)) : Prop × List D := match o with
  | some (off, n) => (d.okCell = true ∧ d.width = n ∧ off + n ≤ cs.length ∧ (fillD pl (splice cs off d.cells) r).1, (fillD pl (splice cs off d.cells) r).2)
  | none => (False, cs)
theorem fillD_cons (pl : Nat → Option (Nat × Nat)) (cs : List D) (i : Nat) (d : D) (r : List (Nat × D)) : fillD pl cs ((i, d) :: r) = fillS (pl i) pl cs d r := by
  rw [fillD]; unfold fillS; cases pl i <;> rfl
theorem fillS_some (off n : Nat) (pl : Nat → Option (Nat × Nat)) (cs : List D) (d : D) (r : List (Nat × D)) : fillS (some (off, n)) pl cs d r = (d.okCell = true ∧ d.width = n ∧ off + n ≤ cs.length ∧ (fillD pl (splice cs off d.cells) r).1, (fillD pl (splice cs off d.cells) r).2) := Eq.trans (Eq.refl _) (Eq.refl _)
attribute [go_sem] fillD_nil fillD_cons fillS_some
/-- A result that lies in a variable. -/
def dcellR (P : Program) (S' : St) (t : TypeId) (x : D) (K : D → Prop) : Prop := match x with
  | .loc k off => match S'.ob k with
    | some (.box _ cs) => rdOk P t cs off ∧ K (rdVal P t cs off)
    | _ => False
  | _ => False
theorem onVal_cell {P : Program} {f : Fm} {S' : St} (x : Tmp) (t : TypeId) (K : D → Prop) : onVal (dres P f S' (.cell x t)) K = dcellR P S' t (f x) K := by
  show onVal (match f x with | .loc k off => (match S'.ob k with | some (.box _ cs) => some (rdOk P t cs off, rdVal P t cs off) | _ => none) | _ => none) K = _
  unfold dcellR
  cases f x with
  | loc k off =>
    show onVal (match S'.ob k with | some (.box _ cs) => some (rdOk P t cs off, rdVal P t cs off) | _ => none) K = (match S'.ob k with | some (.box _ cs) => rdOk P t cs off ∧ K (rdVal P t cs off) | _ => False)
    cases S'.ob k with
    | none => rfl
    | some o => cases o <;> rfl
  | _ => rfl
theorem pfin_cell_normal {P : Program} {S : St} {f : Fm} (x : Tmp) (t : TypeId) (S' : St) (d : D) : DQ.pfin P [.cell x t] S d .normal f S' = dcellR P S' t (f x) (fun r => PFin S S' r d) := onVal_cell x t _
theorem pfin_cell_ret {P : Program} {S : St} {f : Fm} (x : Tmp) (t : TypeId) (S' : St) (d : D) : DQ.pfin P [.cell x t] S d .ret f S' = dcellR P S' t (f x) (fun r => PFin S S' r d) := onVal_cell x t _
attribute [go_sem] pfin_cell_normal pfin_cell_ret dcellR
end
end Go.Proofs.Ytjjhjhjphhpeiaa

namespace Go.Proofs.Ytjjhjhjphhpeiaa
open Go.RowKit

def strD (s : Str) : D := .v (sv s)
def u64D (n : Nat) : D := .v (.int .u64 (n : Int))
mutual
def encS : DSch → D
  | .mk k ws ps => .agg [.v (.int .i64 k), .sl .no (ws.map strD), .sl .no (encSs ps)]
def encSs : List DSch → List D
  | [] => []
  | p :: ps => encS p :: encSs ps
end
mutual
def encV : DVal → D
  | .mk k n s ns is ps => .agg [.v (.int .i64 k), .v (.int .i64 n), strD s, .sl .no (ns.map strD), .sl .no (is.map u64D), .sl .no (encVs ps)]
def encVs : List DVal → List D
  | [] => []
  | p :: ps => encV p :: encVs ps
end
theorem encSs_map : ∀ l : List DSch, encSs l = l.map encS
  | [] => rfl
  | p :: l => by simp [encSs, encSs_map l]
theorem encVs_map : ∀ l : List DVal, encVs l = l.map encV
  | [] => rfl
  | p :: l => by simp [encVs, encVs_map l]
theorem encS_eq (s : DSch) : encS s = .agg [.v (.int .i64 s.kind), .sl .no (s.words.map strD), .sl .no (s.parts.map encS)] := by
  obtain ⟨k, ws, ps⟩ := s
  simp [encS, encSs_map, DSch.kind, DSch.words, DSch.parts]
theorem encV_eq (v : DVal) : encV v = .agg [.v (.int .i64 v.kind), .v (.int .i64 v.n), strD v.s, .sl .no (v.names.map strD), .sl .no (v.ids.map u64D), .sl .no (v.parts.map encV)] := by
  obtain ⟨k, n, s, ns, is, ps⟩ := v
  simp [encV, encVs_map, DVal.kind, DVal.n, DVal.s, DVal.names, DVal.ids, DVal.parts]
theorem closed_strs (l : List Str) : allL (fun _ => False) (l.map strD) := allL_iff.2 fun d hd => by
  obtain ⟨s, _, rfl⟩ := List.mem_map.1 hd
  trivial
theorem closed_u64s (l : List Nat) : allL (fun _ => False) (l.map u64D) := allL_iff.2 fun d hd => by
  obtain ⟨s, _, rfl⟩ := List.mem_map.1 hd
  trivial
mutual
theorem closed_encS : ∀ s : DSch, (encS s).closed
  | .mk k ws ps => by simp only [encS, D.closed, D.all, allL, Own.all]; exact ⟨trivial, ⟨trivial, closed_strs ws⟩, ⟨trivial, closed_encSs ps⟩, trivial⟩
theorem closed_encSs : ∀ l : List DSch, allL (fun _ => False) (encSs l)
  | [] => trivial
  | p :: ps => by simp only [encSs, allL]; exact ⟨closed_encS p, closed_encSs ps⟩
end
mutual
theorem closed_encV : ∀ v : DVal, (encV v).closed
  | .mk k n s ns is ps => by simp only [encV, D.closed, D.all, allL, Own.all, strD]; exact ⟨trivial, trivial, trivial, ⟨trivial, closed_strs ns⟩, ⟨trivial, closed_u64s is⟩, ⟨trivial, closed_encVs ps⟩, trivial⟩
theorem closed_encVs : ∀ l : List DVal, allL (fun _ => False) (encVs l)
  | [] => trivial
  | p :: ps => by simp only [encVs, allL]; exact ⟨closed_encV p, closed_encVs ps⟩
end
theorem frz_strs (l : List Str) : frzL (l.map strD) = l.map strD := by simp [frzL_map, strD, D.frz, Function.comp_def]
theorem frz_u64s (l : List Nat) : frzL (l.map u64D) = l.map u64D := by simp [frzL_map, u64D, D.frz, Function.comp_def]
mutual
theorem frz_encS : ∀ s : DSch, (encS s).frz = encS s
  | .mk k ws ps => by simp only [encS, D.frz, frzL, frz_strs, frz_encSs ps]
theorem frz_encSs : ∀ l : List DSch, frzL (encSs l) = encSs l
  | [] => rfl
  | p :: ps => by simp only [encSs, frzL, frz_encS p, frz_encSs ps]
end
mutual
theorem frz_encV : ∀ v : DVal, (encV v).frz = encV v
  | .mk k n s ns is ps => by simp only [encV, D.frz, frzL, frz_strs, frz_u64s, frz_encVs ps, strD]
theorem frz_encVs : ∀ l : List DVal, frzL (encVs l) = encVs l
  | [] => rfl
  | p :: ps => by simp only [encVs, frzL, frz_encV p, frz_encVs ps]
end
theorem frz_mapV (l : List DVal) : frzL (l.map encV) = l.map encV := by rw [← encVs_map, frz_encVs]
/-! What fits the machine's bounds. -/
mutual
def okS : DSch → Prop
  | .mk k ws ps => I64 k ∧ (∀ s ∈ ws, s.length ≤ maxLen) ∧ ws.length ≤ 140737488351232 ∧ ps.length ≤ 140737488351232 ∧ okSs ps
def okSs : List DSch → Prop
  | [] => True
  | p :: ps => okS p ∧ okSs ps
end
mutual
def okV : DVal → Prop
  | .mk k n s ns is ps => I64 k ∧ I64 n ∧ s.length ≤ maxLen ∧ (∀ s ∈ ns, s.length ≤ maxLen) ∧ ns.length ≤ 140737488351232 ∧ (∀ i ∈ is, U64 (i : Int)) ∧ is.length ≤ 140737488351232 ∧ ps.length ≤ 140737488351232 ∧ okVs ps
def okVs : List DVal → Prop
  | [] => True
  | p :: ps => okV p ∧ okVs ps
end
theorem okSs_iff : ∀ {l : List DSch}, okSs l ↔ ∀ p ∈ l, okS p
  | [] => by simp [okSs]
  | p :: l => by simp [okSs, okSs_iff (l := l)]
theorem okVs_iff : ∀ {l : List DVal}, okVs l ↔ ∀ p ∈ l, okV p
  | [] => by simp [okVs]
  | p :: l => by simp [okVs, okVs_iff (l := l)]
theorem okS_eq (s : DSch) : okS s ↔ I64 s.kind ∧ (∀ x ∈ s.words, x.length ≤ maxLen) ∧ s.words.length ≤ 140737488351232 ∧ s.parts.length ≤ 140737488351232 ∧ ∀ p ∈ s.parts, okS p := by
  obtain ⟨k, ws, ps⟩ := s
  simp only [okS, okSs_iff, DSch.kind, DSch.words, DSch.parts]
theorem okV_eq (v : DVal) : okV v ↔ I64 v.kind ∧ I64 v.n ∧ v.s.length ≤ maxLen ∧ (∀ x ∈ v.names, x.length ≤ maxLen) ∧ v.names.length ≤ 140737488351232 ∧ (∀ i ∈ v.ids, U64 (i : Int)) ∧ v.ids.length ≤ 140737488351232 ∧ v.parts.length ≤ 140737488351232 ∧ ∀ p ∈ v.parts, okV p := by
  obtain ⟨k, n, s, ns, is, ps⟩ := v
  simp only [okV, okVs_iff, DVal.kind, DVal.n, DVal.s, DVal.names, DVal.ids, DVal.parts]
section
variable {P : Program} {w : World} {η : Names} {X : Nat → Nat → Prop}
/-- A slice of single cells. -/
theorem rep_scalars {F : Nat → Prop} {α : Type} (g : α → Value) (h1 : ∀ a, (g a).oneCell' = true) (hX : ∀ b i, F b → X b i) {A : Option Addr} {c : Nat} {l : List α} (h : RF w F 1 A l.length (l.map g)) (hc : l.length ≤ c) (hn : l.length ≤ 140737488351232) :
    Rep P w η X (.sl .no (l.map fun a => .v (g a))) (.slice A l.length c) := by
  simp only [Rep]
  refine ⟨A, c, by rw [List.length_map], by rw [List.length_map]; exact hc, by rw [List.length_map]; omega, trivial, fun h0 => ?_⟩
  rw [List.length_map] at h0
  obtain ⟨b, o, e, hb, hr⟩ := h.2 h0
  refine ⟨b, o, 1, e, by omega, RepE.mk fun i d hd => ?_⟩
  rw [List.getElem?_map] at hd
  cases hi : l[i]? with
  | none => rw [hi] at hd; cases hd
  | some a =>
    rw [hi] at hd
    injection hd with hd
    subst hd
    have hcell := hr i (g a) (by rw [List.getElem?_map, hi]; rfl)
    rw [Nat.mul_one]
    exact ⟨by simp only [RepA], fun _ => ⟨rfl, hX _ _ hb, g a, hcell, h1 a, by simp only [Rep]⟩⟩
/-- A slice of structs. -/
theorem rep_structs {F : Nat → Prop} {α : Type} (e : α → D) (z : Nat) (hz : 0 < z) (hX : ∀ b i, F b → X b i) {A : Option Addr} {c b o : Nat} {l : List α} {C : Nat → List Value} (hA : 0 < l.length → A = some ⟨b, o, none⟩ ∧ F b)
    (hC : ∀ i a, l[i]? = some a → (C i).length = z ∧ w.rangeAt b (o + i * z) (C i)) (hR : ∀ i a, l[i]? = some a → Rep P w η X (e a) (.agg (C i).toArray)) (hagg : ∀ a, (e a).isAgg = true) (hc : l.length ≤ c) (hn : l.length ≤ 140737488351232) :
    Rep P w η X (.sl .no (l.map e)) (.slice A l.length c) := by
  simp only [Rep]
  refine ⟨A, c, by rw [List.length_map], by rw [List.length_map]; exact hc, by rw [List.length_map]; omega, trivial, fun h0 => ?_⟩
  rw [List.length_map] at h0
  refine ⟨b, o, z, (hA h0).1, hz, RepE.mk fun i d hd => ?_⟩
  rw [List.getElem?_map] at hd
  cases hi : l[i]? with
  | none => rw [hi] at hd; cases hd
  | some a =>
    rw [hi] at hd
    injection hd with hd
    subst hd
    have h1 := hR i a hi
    obtain ⟨h2, h3⟩ := hC i a hi
    cases he : e a with
    | agg ds =>
      rw [he] at h1
      simp only [Rep] at h1
      obtain ⟨vs, h4, h5, h6⟩ := h1
      have : C i = vs := by
        injection h4 with h4
        have := congrArg Array.toList h4
        simpa using this
      rw [this] at h2 h3
      have hlen : ds.length = z := by rw [← h5.length, h2]
      exact ⟨by simp only [RepA]; exact ⟨hlen, RepC.mk h5 h3 (fun j _ => hX _ _ (hA h0).2) h6⟩, fun h => by simp [D.isAgg] at h⟩
    | _ => have := hagg a; rw [he] at this; simp [D.isAgg] at this
theorem encS_agg (s : DSch) : (encS s).isAgg = true := by rw [encS_eq]; rfl
theorem encV_agg (v : DVal) : (encV v).isAgg = true := by rw [encV_eq]; rfl
theorem rep_sch {F : Nat → Prop} (hX : ∀ b i, F b → X b i) {s : DSch} {cs : List Value} (h : IsSch w F s cs) : Rep P w η X (encS s) (.agg cs.toArray) := by
  induction h with
  | mk h1 h2 h3 h4 h5 hA hC hP h6 h7 ih =>
    have r1 := rep_scalars (P := P) (η := η) sv (fun _ => rfl) hX h2 h4 h5
    have r2 := rep_structs (P := P) (η := η) encS 3 (by omega) hX hA hC ih encS_agg h6 h7
    simp only [encS, encSs_map, Rep, RepL]
    refine ⟨_, rfl, ⟨_, _, rfl, rfl, _, _, rfl, r1, _, _, rfl, r2, rfl⟩, by simp [Value.oneCell']⟩
/-- The cells of a slice of single values. -/
theorem scalars_of_rep {α : Type} (g : α → Value) {own : Own} {l : List α} {y : Value} (h : Rep P w η X (.sl own (l.map fun a => .v (g a))) y) : ∃ A c, y = .slice A l.length c ∧ l.length ≤ c ∧ RF w (· < w.heap.size) 1 A l.length (l.map g) := by
  simp only [Rep] at h
  obtain ⟨A, c, rfl, h1, _, _, h2⟩ := h
  rw [List.length_map] at *
  refine ⟨A, c, rfl, h1, by simp, fun h0 => ?_⟩
  obtain ⟨b, o, z, rfl, hz, hr⟩ := h2 h0
  have hel : ∀ j a, l[j]? = some a → w.cell? ⟨b, o + j, none⟩ = some (g a) := fun j a hj => by
    have := RepE.get j hr (d := .v (g a)) (by rw [List.getElem?_map, hj]; rfl)
    obtain ⟨e1, _, x, e2, _, e3⟩ := this.2 rfl
    simp only [Rep] at e3
    rw [e1, Nat.mul_one] at e2
    rw [e2, e3]
  refine ⟨b, o, rfl, ?_, fun j u hu => ?_⟩
  · have h3 := hel 0 _ (List.getElem?_eq_getElem h0)
    exact World.block_lt_of_cell? w _ h3
  · rw [List.getElem?_map] at hu
    cases hj : l[j]? with
    | none => rw [hj] at hu; cases hu
    | some a =>
      rw [hj] at hu
      injection hu with hu
      rw [← hu]
      exact hel j a hj
/-- The rows of a slice of structs. -/
theorem structs_of_rep {α : Type} (e : α → D) (hagg : ∀ a, (e a).isAgg = true) {own : Own} {l : List α} {y : Value} {z : Nat} (hw : ∀ a, (e a).width = z) (hz : 0 < z) (h : Rep P w η X (.sl own (l.map e)) y) :
    ∃ A c b o, ∃ C : Nat → List Value, y = .slice A l.length c ∧ l.length ≤ c ∧ (0 < l.length → A = some ⟨b, o, none⟩ ∧ b < w.heap.size) ∧ (∀ i a, l[i]? = some a → (C i).length = z ∧ w.rangeAt b (o + i * z) (C i)) ∧ ∀ i a, l[i]? = some a → Rep P w η X (e a) (.agg (C i).toArray) := by
  simp only [Rep] at h
  obtain ⟨A, c, rfl, h1, _, _, h2⟩ := h
  rw [List.length_map] at *
  rcases Nat.eq_zero_or_pos l.length with h0 | h0
  · have : l = [] := List.eq_nil_of_length_eq_zero h0
    subst this
    exact ⟨A, c, 0, 0, fun _ => [], rfl, h1, fun h => absurd h (by simp), fun i a ha => by simp at ha, fun i a ha => by simp at ha⟩
  obtain ⟨b, o, z', rfl, hz', hr⟩ := h2 h0
  have key : ∀ i, i < l.length → ∃ vs : List Value, vs.length = z ∧ w.rangeAt b (o + i * z) vs ∧ ∀ a, l[i]? = some a → Rep P w η X (e a) (.agg vs.toArray) := fun i hi => by
    have hel := (RepE.get i hr (d := e l[i]) (by rw [List.getElem?_map, List.getElem?_eq_getElem hi]; rfl)).cells
    have hzz : z' = z := by rw [← hel.1, hw]
    subst hzz
    obtain ⟨vs, k1, k2, k3, k4⟩ := hel.2.range
    refine ⟨vs, by rw [k1]; exact hel.1, k2, fun a ha => ?_⟩
    rw [List.getElem?_eq_getElem hi] at ha
    injection ha with ha
    subst ha
    have hg := hagg l[i]
    revert k3 hg
    cases e l[i] with
    | agg ds => intro k3 _; simp only [Rep]; exact ⟨vs, rfl, k3, k4⟩
    | _ => intro _ hg; simp [D.isAgg] at hg
  refine ⟨_, c, b, o, fun i => if hi : i < l.length then Classical.choose (key i hi) else [], rfl, h1, fun _ => ⟨rfl, ?_⟩, fun i a ha => ?_, fun i a ha => ?_⟩
  · have hk := Classical.choose_spec (key 0 h0)
    have := hk.2.1 0 (Classical.choose (key 0 h0))[0] (List.getElem?_eq_getElem (by rw [hk.1]; exact hz))
    exact World.block_lt_of_cell? w _ this
  · have hi : i < l.length := (List.getElem?_eq_some_iff.1 ha).1
    dsimp only
    rw [dif_pos hi]
    have hk := Classical.choose_spec (key i hi)
    exact ⟨hk.1, hk.2.1⟩
  · have hi : i < l.length := (List.getElem?_eq_some_iff.1 ha).1
    dsimp only
    rw [dif_pos hi]
    exact (Classical.choose_spec (key i hi)).2.2 a ha
theorem width_encS (s : DSch) : (encS s).width = 3 := by rw [encS_eq]; rfl
theorem width_encV (v : DVal) : (encV v).width = 6 := by rw [encV_eq]; rfl
theorem sch_of_rep : ∀ (n : Nat) (s : DSch), s.depth ≤ n → okS s → ∀ {y : Value}, Rep P w η X (encS s) y → ∃ cs : List Value, y = .agg cs.toArray ∧ IsSch w (· < w.heap.size) s cs
  | 0, s, h, _, _, _ => by have := s.depth_pos; omega
  | n + 1, s, hd, hok, y, h => by
    have hdp : ∀ p ∈ s.parts, p.depth < s.depth := fun p hp => DSch.depth_part hp
    obtain ⟨o1, o2, o3, o4, o5⟩ := (okS_eq s).1 hok
    rw [encS_eq] at h
    simp only [Rep, RepL] at h
    obtain ⟨vs, rfl, ⟨_, _, rfl, rfl, _, _, rfl, h2, _, _, rfl, h3, rfl⟩, _⟩ := h
    have h2' := scalars_of_rep (P := P) (w := w) (η := η) (X := X) sv (own := .no) (l := s.words) (by simp only [Rep]; exact h2)
    have h3' := structs_of_rep (P := P) (w := w) (η := η) (X := X) encS encS_agg (own := .no) (l := s.parts) width_encS (by omega) (by simp only [Rep]; exact h3)
    obtain ⟨A1, c1, rfl, g1, g2⟩ := h2'
    obtain ⟨A2, c2, b, o, C, rfl, k1, k2, k3, k4⟩ := h3'
    refine ⟨_, rfl, ?_⟩
    obtain ⟨k, ws, ps⟩ := s
    refine .mk o1 g2 o2 g1 o3 k2 k3 (fun i p hp => ?_) k1 o4
    obtain ⟨cs, e1, e2⟩ := sch_of_rep n p (by have := hdp p (List.mem_of_getElem? hp); omega) (o5 p (List.mem_of_getElem? hp)) (k4 i p hp)
    have : C i = cs := by
      injection e1 with e1
      have := congrArg Array.toList e1
      simpa using this
    rw [this]
    exact e2
theorem val_of_rep : ∀ (n : Nat) (s : DVal), s.depth ≤ n → okV s → ∀ {y : Value}, Rep P w η X (encV s) y → ∃ cs : List Value, y = .agg cs.toArray ∧ IsVal w (· < w.heap.size) s cs
  | 0, s, h, _, _, _ => by have := s.depth_pos; omega
  | n + 1, s, hd, hok, y, h => by
    have hdp : ∀ p ∈ s.parts, p.depth < s.depth := fun p hp => DVal.depth_part hp
    obtain ⟨o1, o2, o3, o4, o5, o6, o7, o8, o9⟩ := (okV_eq s).1 hok
    rw [encV_eq] at h
    simp only [strD, Rep, RepL] at h
    obtain ⟨vs, rfl, ⟨_, _, rfl, rfl, _, _, rfl, rfl, _, _, rfl, rfl, _, _, rfl, h2, _, _, rfl, h4, _, _, rfl, h3, rfl⟩, _⟩ := h
    have h2' := scalars_of_rep (P := P) (w := w) (η := η) (X := X) sv (own := .no) (l := s.names) (by simp only [Rep]; exact h2)
    have h4' := scalars_of_rep (P := P) (w := w) (η := η) (X := X) uv (own := .no) (l := s.ids) (by simp only [Rep]; exact h4)
    have h3' := structs_of_rep (P := P) (w := w) (η := η) (X := X) encV encV_agg (own := .no) (l := s.parts) width_encV (by omega) (by simp only [Rep]; exact h3)
    obtain ⟨A1, c1, rfl, g1, g2⟩ := h2'
    obtain ⟨A3, c3, rfl, g3, g4⟩ := h4'
    obtain ⟨A2, c2, b, o, C, rfl, k1, k2, k3, k4⟩ := h3'
    refine ⟨_, rfl, ?_⟩
    obtain ⟨k, n', s', ns, is, ps⟩ := s
    refine .mk o1 o2 o3 g2 o4 g1 o5 g4 o6 g3 o7 k2 k3 (fun i p hp => ?_) k1 o8
    obtain ⟨cs, e1, e2⟩ := val_of_rep n p (by have := hdp p (List.mem_of_getElem? hp); omega) (o9 p (List.mem_of_getElem? hp)) (k4 i p hp)
    have : C i = cs := by
      injection e1 with e1
      have := congrArg Array.toList e1
      simpa using this
    rw [this]
    exact e2
end
/-! ### Over memory, and over trees -/
section
variable {P : Program} {base : Nat} {S : St} {η : Names} {w : World}
theorem goes_below (h : Mem P base S η w) {w' : World} (hb : Below w.heap.size w w') : Goes P base S η w S η w' := by
  have K : Keep (fun _ => True) w η (Fix P S η) w' η (Fix P S η) := ⟨hb.size, fun b i hlt hx => ⟨hx, hb.cell (p := ⟨b, i, none⟩) hlt⟩, fun _ _ _ hx => hx, fun b cur _ hx => ⟨cur, by rw [hb.block b ((Array.getElem?_eq_some_iff.1 hx).1)]; exact hx, rfl⟩⟩
  refine ⟨⟨Nat.le_trans h.base_ hb.size, h.dead, h.fresh, h.live, h.inj, fun k b hk => ⟨(h.in_ k b hk).1, Nat.lt_of_lt_of_le (h.in_ k b hk).2 hb.size⟩, fun k t cs b h1 h2 => ?_, fun k e n b h1 h2 => ?_, h.glob.below (hb.mono h.base_)⟩, K, hb.mono h.base_⟩
  · obtain ⟨vs, k1, k2, k3⟩ := h.box k t cs b h1 h2
    exact ⟨vs, by rw [hb.block b (h.in_ k b h2).2]; exact k1, RepL.keep K (allL_true _) k2, k3⟩
  · obtain ⟨cur, k1, k2⟩ := h.row k e n b h1 h2
    exact ⟨cur, by rw [hb.block b (h.in_ k b h2).2]; exact k1, k2⟩
/-- A contract over memory, of a plain answer. -/
theorem dpure_of_gives {g : FuncId} {args : List D} {v : Value} (hent : ∀ vs w, (callFunc g vs).run P w = .ok (.enter g vs) w) (h : ∀ (w : World) (η : Names) (X : Nat → Nat → Prop) (vs : List Value), RepL P w η X args vs → Calls P g vs.toArray w (Gives v w)) : DPure P g args (.v v) :=
  fun _ _ η w vs hM hr => .inl ⟨hent _ _, (h w η _ vs hr).mono fun _ _ ⟨he, hb⟩ => ⟨.v v, _, η, v, ⟨rfl, rfl⟩, he, by simp only [Rep], goes_below hM hb⟩⟩
def St.nil : St := ⟨0, fun _ => none⟩
theorem mem_nil (w : World) (hg : GlobOk w.heap.size w) : Mem P w.heap.size St.nil (fun _ => none) w := ⟨Nat.le_refl _, fun _ _ => rfl, fun _ _ => rfl, (fun _ _ _ h => by cases h), (fun _ _ _ h => by cases h), (fun _ _ h => by cases h), (fun _ _ _ _ h => by cases h), (fun _ _ _ _ h => by cases h), hg⟩
theorem fix_nil (b i : Nat) : Fix P St.nil (fun _ => none) b i := fun _ _ h => by cases h
/-- A contract over trees, of a plain answer, at a call in any memory. -/
theorem gives_of_dpure {g : FuncId} {args : List D} {v : Value} (h : DPure P g args (.v v)) {w : World} {vs : List Value} (hr : RepL P w (fun _ => none) (Fix P St.nil fun _ => none) args vs) (hent : ∀ vs w, (callFunc g vs).run P w = .ok (.enter g vs) w := by intro _ _; kernel_rfl) (hg : GlobOk w.heap.size w := by exact globOk_none _ _) : Calls P g vs.toArray w (Gives v w) := by
  rcases h St.nil w.heap.size _ w vs (mem_nil w hg) hr with ⟨_, k⟩ | ⟨d, S', η', u, w', k, _⟩
  · refine k.mono fun _ _ ⟨d, S', η', u, ⟨h1, _⟩, h2, h3, h4⟩ => ?_
    subst h1
    simp only [Rep] at h3
    subst h3
    exact ⟨h2, h4.below⟩
  · rw [hent] at k
    injection k with k
    cases k
end
theorem empty_toList : (⟨#[]⟩ : ByteArray).toList = [] := by rw [Go.Lib.toList_data]
theorem cells_encV (v : DVal) : (encV v).cells.length = 6 := width_encV v
theorem cells_encS (s : DSch) : (encS s).cells.length = 3 := width_encS s
theorem agg_encV (v : DVal) : D.agg (encV v).cells = encV v := by rw [encV_eq]; rfl
theorem agg_encS (s : DSch) : D.agg (encS s).cells = encS s := by rw [encS_eq]; rfl
theorem take_encV (v : DVal) : (encV v).cells.take 6 = (encV v).cells := List.take_of_length_le (by rw [cells_encV]; omega)
theorem take_encS (s : DSch) : (encS s).cells.take 3 = (encS s).cells := List.take_of_length_le (by rw [cells_encS]; omega)
theorem okCell_encV (v : DVal) : (encV v).okCell = true := by rw [encV_eq]; rfl
theorem okCell_encS (s : DSch) : (encS s).okCell = true := by rw [encS_eq]; rfl
theorem cut_guard {P : Program} {x : D} {want : Bool} {f : Fm} {S : St} {ty : TypeId} {op : Op} {ops : Array Oper} {R J : Fm → St → Prop} {r : List Oper} {dst : Option Tmp} (J' : Fm → St → Prop) (hJ : J = J') (h : ∀ f S, J f S → R f S)
    (k : dguard x want (dopF P f S ty op (dnext P ops J r f dst)) (dskip P ops J r f dst S)) : dguard x want (dopF P f S ty op (dnext P ops R r f dst)) (dskip P ops R r f dst S) := by
  cases x with
  | v u => cases u with
    | bool b => exact ⟨fun e => dop_mono (fun d S' hd => dops_mono h r hd) (k.1 e), fun e => dops_mono h r (k.2 e)⟩
    | _ => exact k
  | tup l => cases l with
    | nil => exact dops_mono h r k
    | cons d l => exact k
  | _ => exact k
attribute [go_sem] empty_toList strB_size cells_encV cells_encS agg_encV agg_encS take_encV take_encS okCell_encV okCell_encS strD u64D
end Go.Proofs.Ytjjhjhjphhpeiaa
