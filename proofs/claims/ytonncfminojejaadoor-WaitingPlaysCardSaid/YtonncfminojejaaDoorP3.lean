/- Texts of a proof, part 3. Conditions: none. -/
import Derived.Test.YtonncfminojejaaDoorP2
set_option linter.unusedVariables false
set_option linter.unusedSimpArgs false
namespace Go.Proofs.YtonncfminojejaaDoor
open Go.RowKit

def drawOk (l : List Oper) (n : Nat) : Bool := Region.lexB .any (l.take n).toArray && (n == l.length || heldTailB l n)
def ddraw (P : Program) (l : List Oper) (Q : Fm → St → Prop) (f : Fm) (S : St) : Prop :=
  (∃ n, drawOk l n = true ∧ dhead P (l.take n).toArray S (fun f' S' => dops P l.toArray Q (l.drop n) f' S') (l.take n) f none) ∨
  ∃ (Zs : St → Prop) (n : Nat), Zs S ∧ (n == l.length || heldTailB l n) = true ∧ sAny P .any (l.take n).toArray Zs (fun f' S' => dops P l.toArray Q (l.drop n) f' S') (l.take n).toArray.size (Array.replicate (l.take n).toArray.size false) f S

inductive DX where
  | normal
  | exit (i : Nat)
  | ret
def DX.up : DX → Exit
  | .normal => .normal
  | .exit i => .exit i
  | .ret => .ret
abbrev DQ := DX → Fm → St → Prop
def DQ.then (k : Fm → St → Prop) (Q : DQ) : DQ
  | .normal, f, S => k f S
  | .exit i, f, S => Q (.exit i) f S
  | .ret, f, S => Q .ret f S
def DQ.block (id : Nat) (Q : DQ) : DQ
  | .normal, f, S => Q .normal f S
  | .exit i, f, S => bif Nat.beq i id then Q .normal f S else Q (.exit i) f S
  | .ret, f, S => Q .ret f S
structure St.Sub (S S' : St) : Prop where
  next : S.next ≤ S'.next
  ob : ∀ k o, S.ob k = some o → S'.ob k = some o
def DLoop (body : DQ → Fm → St → Prop) (Q : DQ) (f : Fm) (S : St) : Prop := ∃ (I : Fm → St → Prop) (μ : Fm → St → Nat), I f S ∧ ∀ g T, I g T →
  body (DQ.then (fun f' S' => ∃ S'' : St, (S''.next = S'.next ∧ ∀ k o, S''.ob k = some o → S'.ob k = some o) ∧ I f' S'' ∧ μ f' S'' < μ g T) Q) g T
def dwp (P : Program) : Code → DQ → Fm → St → Prop
  | .skip, Q, f, S => Q .normal f S
  | .label _, Q, f, S => Q .normal f S
  | .region _ ops false, Q, f, S => dops P ops (Q .normal) ops.toList f S
  | .region _ ops true, Q, f, S => ddraw P ops.toList (Q .normal) f S
  | .seq x y, Q, f, S => dwp P x (DQ.then (fun f S => dwp P y Q f S) Q) f S
  | .cond c x y, Q, f, S => match ev f c with
    | .v (.bool b) => (b = true → dwp P x Q f S) ∧ (b = false → dwp P y Q f S)
    | _ => False
  | .block id c, Q, f, S => dwp P c (DQ.block id Q) f S
  | .loop c, Q, f, S => DLoop (fun Q f S => dwp P c Q f S) Q f S
  | .exit id, Q, f, S => Q (.exit id) f S
  | .ret, Q, f, S => Q .ret f S
  | _, _, _, _ => False
def codeOk (n : Nat) : Code → Bool
  | .region _ ops _ => ops.all fun o => operOk n ops o
  | .seq x y => codeOk n x && codeOk n y
  | .cond c x y => opnOk n c && codeOk n x && codeOk n y
  | .block _ c => codeOk n c
  | .loop c => codeOk n c
  | _ => true

section
variable {P : Program} {base : Nat} {S : St} {η : Names} {w : World} {f : Fm} {a : Act}
theorem goes_sub (h : Mem P base S η w) {S' : St} (hn : S'.next = S.next) (hs : ∀ k o, S'.ob k = some o → S.ob k = some o) : Goes P base S η w S' η w := by
  have subS : ∀ k, (S'.ob k).isSome = true → (S.ob k).isSome = true := fun k hk => by
    obtain ⟨o, ho⟩ := Option.isSome_iff_exists.1 hk
    rw [hs k o ho]; rfl
  have K : Keep (fun _ => True) w η (Fix P S η) w η (Fix P S' η) := ⟨Nat.le_refl _, fun b i _ hx => ⟨fun k o hk hk' => hx k o hk (hs k o hk'), rfl⟩, fun _ _ _ hx => hx, fun _ c _ hx => ⟨c, hx, rfl⟩⟩
  refine ⟨⟨h.base_, fun k hk => h.dead k (by omega), fun k hk => ?_, fun k t cs hk => h.live k t cs (hs _ _ hk), fun k k' b h1 h2 h3 h4 => h.inj k k' b h1 h2 (subS k h3) (subS k' h4), h.in_, fun k t cs b h1 h2 => ?_, fun k e n b h1 h2 => h.row k e n b (hs _ _ h1) h2, h.glob⟩, K, Below.refl _ _, fun _ => Nat.le_refl _, Loops.refl _⟩
  · cases ho : S'.ob k with
    | none => rfl
    | some o => have := hs k o ho; rw [h.fresh k (by omega)] at this; cases this
  · obtain ⟨vs, k1, k2, k3⟩ := h.box k t cs b (hs _ _ h1) h2
    exact ⟨vs, k1, RepL.keep K (allL_true _) k2, k3⟩
theorem operOk_take {n m : Nat} {l : List Oper} {o : Oper} (h : operOk n l.toArray o = true) : operOk n (l.take m).toArray o = true := by
  simp only [operOk, Bool.and_eq_true] at *
  refine ⟨h.1, ?_⟩
  have h2 := h.2
  cases hg : o.guard with
  | none => rfl
  | some p =>
    obtain ⟨j, want⟩ := p
    rw [hg] at h2
    simp only at h2 ⊢
    by_cases hj : j < m
    · rw [take_get hj]; exact h2
    · rw [Array.getElem?_eq_none (by simp; omega)]; rfl
theorem ddraw_sound (hm : P.follows .mixedOrders = true) {id : Nat} {l : List Oper} {Q : Fm → St → Prop} {Q' : Exit → Act → World → Prop} (hok : ∀ o ∈ l, operOk a.tmps.size l.toArray o = true) (hM : Mem P base S η w) (hf : RepF P w η (Fix P S η) f a) (h : ddraw P l Q f S)
    (hq : ∀ f' S' η' w' a', Q f' S' → Goes P base S η w S' η' w' → RepF P w' η' (Fix P S' η') f' a' → a'.tmps.size = a.tmps.size → a'.defers = a.defers → Q' .normal a' w') : (Code.region id l.toArray true).wp P Q' a w := by
  have hokn : ∀ n, ∀ (j : Nat) (o : Oper), (l.take n).toArray[j]? = some o → operOk a.tmps.size (l.take n).toArray o = true := fun n j o ho => operOk_take (hok o (by
    have := List.mem_of_getElem? (show (l.take n)[j]? = some o by simpa using ho)
    exact List.mem_of_mem_take this))
  have G0 := goes_drew hM
  rcases h with ⟨n, hn, hh⟩ | ⟨Zs, n, hZ, hn, hh⟩
  rotate_left
  · simp only [Bool.or_eq_true, beq_iff_eq] at hn
    rcases hn with hn | hn
    · have hl : l.take n = l := by rw [hn, List.take_length]
      have hd : l.drop n = [] := by rw [hn, List.drop_length]
      have hokl := hokn n
      rw [hl] at hh hokl
      refine wp_region_any hm (sAny_sound (w := w.drew) hokl l.toArray.size _ hZ G0.mem (G0.repF hf) rfl hh fun f' S' η' w' a' g1 g2 g3 g4 g5 => ?_)
      rw [hd] at g1
      exact hq f' S' η' w' a' g1 (G0.trans g2) g3 g4 g5
    · refine wp_region_any_tail n hm hn ?_
      have := sAny_sound (Q' := Exit.then (fun a w => wpList P l.toArray Q' (l.drop n) a w) Q') (hokn n) (l.take n).toArray.size (Array.replicate (l.take n).toArray.size false) hZ G0.mem (G0.repF hf) rfl hh fun f' S1 η' w' a' g1 g2 g3 g4 g5 => by
        refine dops_sound (l.drop n) (fun o ho => by rw [g4]; exact hok o (List.mem_of_mem_drop ho)) g2.mem g3 g1 fun f'' S'' η'' w'' a'' k1 k2 k3 k4 k5 => ?_
        exact hq f'' S'' η'' w'' a'' k1 ((G0.trans g2).trans k2) k3 (by rw [k4, g4]) (by rw [k5, g5])
      exact this
  simp only [drawOk, Bool.and_eq_true, Bool.or_eq_true, beq_iff_eq] at hn
  obtain ⟨hlex, hn⟩ := hn
  simp only [Region.lexB, Bool.and_eq_true] at hlex
  have hany := hAny_lex (l.take n) 0 (Array.replicate (l.take n).toArray.size false) f none (by simp) (by simpa using hlex.2) hh
  have hok' := hokn n
  rcases hn with hn | hn
  · subst hn
    rw [List.take_length] at hany hok'
    refine wp_region_any hm (wpAny_of_head (u := none) (w := w.drew) hM.fresh hok' l.toArray.size _ G0.mem (G0.repF hf) rfl (by simpa using hany) fun f' u' η' w' a' g1 g2 g3 g4 g5 => ?_)
    have g1' : Q f' (after S u') := by simpa [dops, dops2] using g1
    exact hq f' (after S u') η' w' a' g1' (G0.trans g2) g3 g4 g5
  · refine wp_region_any_tail n hm hn ?_
    have := wpAny_of_head (u := none) (Q' := Exit.then (fun a w => wpList P l.toArray Q' (l.drop n) a w) Q') hM.fresh hok' (l.take n).toArray.size (Array.replicate (l.take n).toArray.size false) G0.mem (G0.repF hf) rfl (by simpa using hany) fun f' u' η' w' a' g1 g2 g3 g4 g5 => by
      refine dops_sound (l.drop n) (fun o ho => by rw [g4]; exact hok o (List.mem_of_mem_drop ho)) g2.mem g3 g1 fun f'' S'' η'' w'' a'' k1 k2 k3 k4 k5 => ?_
      exact hq f'' S'' η'' w'' a'' k1 ((G0.trans g2).trans k2) k3 (by rw [k4, g4]) (by rw [k5, g5])
    exact this
theorem dwp_sound (hm : P.follows .mixedOrders = true) : ∀ (c : Code) {Q : DQ} {S : St} {η : Names} {w : World} {f : Fm} {a : Act} {Q' : Exit → Act → World → Prop}, codeOk a.tmps.size c = true → Mem P base S η w → RepF P w η (Fix P S η) f a → dwp P c Q f S →
    (∀ e f' S' η' w' a', Q e f' S' → Goes P base S η w S' η' w' → RepF P w' η' (Fix P S' η') f' a' → a'.tmps.size = a.tmps.size → a'.defers = a.defers → Q' e.up a' w') → c.wp P Q' a w := by
  intro c
  induction c with
  | skip => intro Q S η w f a Q' _ hM hf h hq; exact wp_skip (hq .normal f S η w a h (Goes.refl hM) hf rfl rfl)
  | label l => intro Q S η w f a Q' _ hM hf h hq; exact wp_label (hq .normal f S η w a h (Goes.refl hM) hf rfl rfl)
  | exit id => intro Q S η w f a Q' _ hM hf h hq; exact wp_exit (hq (.exit id) f S η w a h (Goes.refl hM) hf rfl rfl)
  | ret => intro Q S η w f a Q' _ hM hf h hq; exact wp_ret (hq .ret f S η w a h (Goes.refl hM) hf rfl rfl)
  | region id ops draw =>
    intro Q S η w f a Q' hok hM hf h hq
    have hok' : ∀ o ∈ ops.toList, operOk a.tmps.size ops o = true := fun o ho => Array.all_eq_true_iff_forall_mem.1 hok o (by simpa using ho)
    cases draw with
    | false => exact wp_region_list (dops_sound ops.toList hok' hM hf h fun f' S' η' w' a' k1 k2 k3 k4 k5 => hq .normal f' S' η' w' a' k1 k2 k3 k4 k5)
    | true => exact ddraw_sound (l := ops.toList) hm hok' hM hf h fun f' S' η' w' a' k1 k2 k3 k4 k5 => hq .normal f' S' η' w' a' k1 k2 k3 k4 k5
  | seq x y ihx ihy =>
    intro Q S η w f a Q' hok hM hf h hq
    simp only [codeOk, Bool.and_eq_true] at hok
    refine wp_seq (ihx hok.1 hM hf h fun e f' S' η' w' a' k1 k2 k3 k4 k5 => ?_)
    cases e with
    | normal =>
      exact ihy (by rw [k4]; exact hok.2) k2.mem k3 k1 fun e f'' S'' η'' w'' a'' g1 g2 g3 g4 g5 => hq e f'' S'' η'' w'' a'' g1 (k2.trans g2) g3 (by rw [g4, k4]) (by rw [g5, k5])
    | exit i => exact hq (.exit i) f' S' η' w' a' k1 k2 k3 k4 k5
    | ret => exact hq .ret f' S' η' w' a' k1 k2 k3 k4 k5
  | cond g x y ihx ihy =>
    intro Q S η w f a Q' hok hM hf h hq
    simp only [codeOk, Bool.and_eq_true] at hok
    have hg := hf.ev hok.1.1
    unfold dwp at h
    split at h
    · rename_i b hb
      rw [hb] at hg
      simp only [Rep] at hg
      refine wp_cond (t := b) hg ?_
      cases b with
      | true => exact ihx hok.1.2 hM hf (h.1 rfl) hq
      | false => exact ihy hok.2 hM hf (h.2 rfl) hq
    · exact h.elim
  | block id c ih =>
    intro Q S η w f a Q' hok hM hf h hq
    refine wp_block (ih hok hM hf h fun e f' S' η' w' a' k1 k2 k3 k4 k5 => ?_)
    cases e with
    | normal => exact hq .normal f' S' η' w' a' k1 k2 k3 k4 k5
    | ret => exact hq .ret f' S' η' w' a' k1 k2 k3 k4 k5
    | exit i =>
      simp only [DQ.block] at k1
      simp only [DX.up, Exit.inBlock]
      cases hb : Nat.beq i id with
      | true =>
        rw [if_pos (Nat.eq_of_beq_eq_true hb)]
        rw [hb] at k1
        exact hq .normal f' S' η' w' a' k1 k2 k3 k4 k5
      | false =>
        rw [if_neg (by intro e; rw [e, Nat.beq_refl] at hb; cases hb)]
        rw [hb] at k1
        exact hq (.exit i) f' S' η' w' a' k1 k2 k3 k4 k5
  | loop c ih =>
    intro Q S η w f a Q' hok hM hf h hq
    unfold dwp at h
    obtain ⟨I, μ, h0, hround⟩ := h
    intro b k cs
    have key : ∀ n (g : Fm) (T : St) (η1 : Names) (w1 : World) (a1 : Act), μ g T = n → I g T → Goes P base S η w T η1 w1 → RepF P w1 η1 (Fix P T η1) g a1 → a1.tmps.size = a.tmps.size → a1.defers = a.defers →
        ∃ e a' w', Q' e a' w' ∧ Arrives P (lone (b.at a1 (.code c :: .inLoop c :: k)) cs w1) b k cs e a' w' := by
      intro n
      induction n using Nat.strongRecOn with
      | _ n ihn =>
        intro g T η1 w1 a1 hn hI hG hF hs hd
        have hr := hround g T hI
        have := ih (Q' := fun e a' w' => (e = .normal ∧ ∃ g' T' η', I g' T' ∧ μ g' T' < μ g T ∧ Goes P base S η w T' η' w' ∧ RepF P w' η' (Fix P T' η') g' a' ∧ a'.tmps.size = a.tmps.size ∧ a'.defers = a.defers) ∨ (e ≠ .normal ∧ Q' e a' w')) (by rw [hs]; exact hok) hG.mem hF hr (fun e f' S' η' w' a' k1 k2 k3 k4 k5 => by
          cases e with
          | normal =>
            obtain ⟨S'', ⟨s1, s2⟩, s3, s4⟩ := k1
            have G2 := goes_sub k2.mem s1 s2
            exact .inl ⟨rfl, f', S'', η', s3, s4, (hG.trans k2).trans G2, G2.repF k3, by rw [k4, hs], by rw [k5, hd]⟩
          | exit i => exact .inr ⟨by simp [DX.up], hq (.exit i) f' S' η' w' a' k1 (hG.trans k2) k3 (by rw [k4, hs]) (by rw [k5, hd])⟩
          | ret => exact .inr ⟨by simp [DX.up], hq .ret f' S' η' w' a' k1 (hG.trans k2) k3 (by rw [k4, hs]) (by rw [k5, hd])⟩)
        obtain ⟨e, a₁, w₁, hq', harr⟩ := this b (.inLoop c :: k) cs
        rcases hq' with ⟨rfl, g', T', η', j1, j2, j3, j4, j5, j6⟩ | ⟨hne, hq'⟩
        · obtain ⟨e₂, a₂, w₂, hq₂, harr₂⟩ := ihn (μ g' T') (hn ▸ j2) g' T' η' w₁ a₁ rfl j1 j3 j4 j5 j6
          exact ⟨e₂, a₂, w₂, hq₂, .of_steps (Steps.trans harr (.one step_inLoop)) harr₂⟩
        · cases e with
          | normal => exact absurd rfl hne
          | exit id => exact ⟨_, a₁, w₁, hq', .pass (x := .inLoop c) rfl (fun _ _ => .inl (by simp)) harr⟩
          | goto l => exact ⟨_, a₁, w₁, hq', .pass (x := .inLoop c) rfl (fun _ _ => .inl (by simp)) harr⟩
          | ret => exact ⟨_, a₁, w₁, hq', .pass (x := .inLoop c) rfl (fun _ _ => .inl (by simp)) harr⟩
          | panic ch => exact ⟨_, a₁, w₁, hq', .pass (x := .inLoop c) rfl (fun _ _ => .inl (by simp)) harr⟩
          | outgrown => exact ⟨_, a₁, w₁, hq', .pass (x := .inLoop c) rfl (fun _ _ => .inl (by simp)) harr⟩
    obtain ⟨e, a', w', hq', harr⟩ := key _ f S η w a rfl h0 (Goes.refl hM) hf rfl rfl
    exact ⟨e, a', w', hq', .of_steps (.one step_loop) harr⟩
  | rangeFunc x ps aa b _ _ => intro Q S η w f a Q' _ _ _ h; exact h.elim
  | scope c _ => intro Q S η w f a Q' _ _ _ h; exact h.elim
  | goto l => intro Q S η w f a Q' _ _ _ h; exact h.elim
  | refuse s => intro Q S η w f a Q' _ _ _ h; exact h.elim
end

/-! ### Functions -/
def argF (args : List D) : Fm := fun t => args.getD t undefD
def dres (P : Program) (f : Fm) (S : St) : ResultVar → Option (Prop × D)
  | .tmp t => some (True, f t)
  | .cell x t => match f x with
    | .loc k off => match S.ob k with
      | some (.box _ cs) => some (rdOk P t cs off, rdVal P t cs off)
      | _ => none
    | _ => none
def dresL (P : Program) (f : Fm) (S : St) : List ResultVar → (List D → Prop) → Prop
  | [], K => K []
  | r :: l, K => onVal (dres P f S r) fun d => dresL P f S l fun ds => K (d :: ds)
def one (ds : List D) : D := match ds with
  | [d] => d
  | ds => .tup ds
def resOk (n : Nat) : ResultVar → Bool
  | .tmp t => Nat.blt t n
  | .cell t _ => Nat.blt t n
def DLe (d d' : D) : Prop := ∀ (P : Program) (w : World) (η : Names) (X : Nat → Nat → Prop) (v : Value), Rep P w η X d v → Rep P w η X d' v
def DFin (S S' : St) (d : D) (K : D → St → Prop) : Prop := ∃ d' S'', DLe d d' ∧ d'.all (· < S''.next) ∧ S''.next ≤ S'.next ∧ S.next ≤ S''.next ∧
  (∀ k o, S''.ob k = some o → S'.ob k = some o ∧ k < S''.next ∧ ∀ t cs, o = .box t cs → S.ob k = some o ∨ allL (· < S''.next) cs) ∧ K d' S''
def Thaw (P : Program) (S : St) (d : D) (S1 : St) (d1 : D) : Prop := ∀ base η w v, Mem P base S η w → Rep P w η (Fix P S η) d v → ∃ η', Goes P base S η w S1 η' w ∧ Rep P w η' (Fix P S1 η') d1 v
theorem Thaw.refl (P : Program) (S : St) (d : D) : Thaw P S d S d := fun _ η _ _ hM hr => ⟨η, Goes.refl hM, hr⟩
def DFinT (P : Program) (S S' : St) (d : D) (K : D → St → Prop) : Prop := ∃ S1 d1, Thaw P S' d S1 d1 ∧ DFin S S1 d1 K
theorem DFin.t {P : Program} {S S' : St} {d : D} {K : D → St → Prop} (h : DFin S S' d K) : DFinT P S S' d K := ⟨S', d, Thaw.refl P S' d, h⟩
def DQ.fin (P : Program) (rs : List ResultVar) (S : St) (K : D → St → Prop) : DQ
  | .exit _, _, _ => False
  | _, f, S' => dresL P f S' rs fun ds => DFinT P S S' (one ds) K
section
variable {P : Program} {base : Nat} {S : St} {η : Names} {w : World} {f : Fm} {a : Act}
def rv (tmps : Array Value) : ResultVar → Sem Value
  | .tmp t => pure (tmps.getD t undef)
  | .cell x t => do loadVar t (← asAddr (tmps.getD x undef))
theorem results_rv (fn : Func) (tmps : Array Value) : results fn tmps = (do let vs ← fn.results.mapM (rv tmps); pure (if h : vs.size = 1 then vs[0] else .tuple vs)) := by
  unfold results
  congr 1
theorem dres_sound (hM : Mem P base S η w) (hf : RepF P w η (Fix P S η) f a) {r : ResultVar} (hr : resOk a.tmps.size r = true) {c : Prop} {d : D} (h : dres P f S r = some (c, d)) (hc : c) :
    ∃ v, (rv a.tmps r).run P w = .ok v w ∧ Rep P w η (Fix P S η) d v := by
  cases r with
  | tmp t =>
    simp only [dres] at h
    injection h with h; injection h with _ hd; subst hd
    exact ⟨_, rfl, hf t (by simpa [resOk, Nat.blt_eq] using hr)⟩
  | cell x t =>
    simp only [dres] at h
    have hx := hf x (by simpa [resOk, Nat.blt_eq] using hr)
    split at h
    · rename_i k off hk
      rw [hk] at hx
      split at h
      · rename_i t' cs hb
        -- as a load
        have hl : dval P (fun _ => .loc k off) S 0 (.load t (.tmp 0)) = some (rdOk P t cs off, rdVal P t cs off) := by simp only [dval, ev, hb]
        rw [h] at hl
        have hF : RepF P w η (Fix P S η) (fun _ => .loc k off) { tmps := #[a.tmps.getD x undef], defers := [] } := fun i hi => by
          have : i = 0 := by simpa using hi
          subst this
          exact hx
        obtain ⟨v, h1, h2⟩ := dval_sound (o := ⟨none, .load t (.tmp 0), 0, "", #[], none⟩) hM hF (by simp [opsOk, Op.operands, opnOk]) hl hc
        simp only [Rep] at hx
        obtain ⟨b, _, e2⟩ := hx
        refine ⟨v, ?_, h2⟩
        have e : (execOp (Act.eval { tmps := #[a.tmps.getD x undef], defers := [] }) ⟨none, .load t (.tmp 0), 0, "", #[], none⟩).run P w = ((loadVar t ⟨b, off, none⟩).run P w).andThen fun v w => .ok (.value v) w := by
          unfold execOp
          simp only [Act.eval, Sem.run_bind, Instr.loadAt]
          rw [show (#[a.tmps.getD x undef] : Array Value).getD 0 undef = a.tmps.getD x undef from rfl, e2]
          rfl
        rw [e] at h1
        simp only [rv, e2, asAddr, Sem.run_bind, Sem.run_pure, Result.andThen_ok]
        cases hv : (loadVar t ⟨b, off, none⟩).run P w with
        | ok u w2 =>
          rw [hv] at h1
          simp only [Result.andThen_ok] at h1
          injection h1 with h1 h1'
          injection h1 with h1
          rw [h1, h1']
        | halt u w2 =>
          rw [hv] at h1
          cases h1
      · cases h
    · cases h
theorem dresL_sound (hM : Mem P base S η w) (hf : RepF P w η (Fix P S η) f a) : ∀ (l : List ResultVar) {K : List D → Prop}, (∀ r ∈ l, resOk a.tmps.size r = true) → dresL P f S l K →
    ∃ ds vs, K ds ∧ RepL P w η (Fix P S η) ds vs ∧ (l.mapM (rv a.tmps)).run P w = .ok vs w
  | [], K, _, h => ⟨[], [], h, by simp [RepL], rfl⟩
  | r :: l, K, hr, h => by
    unfold dresL at h
    cases hd : dres P f S r with
    | none => rw [hd] at h; exact h.elim
    | some p =>
      obtain ⟨c, d⟩ := p
      rw [hd] at h
      obtain ⟨v, h1, h2⟩ := dres_sound hM hf (hr r (by simp)) hd h.1
      obtain ⟨ds, vs, k1, k2, k3⟩ := dresL_sound hM hf l (fun r' hr' => hr r' (by simp [hr'])) h.2
      refine ⟨d :: ds, v :: vs, k1, by simp only [RepL]; exact ⟨v, vs, rfl, h2, k2⟩, ?_⟩
      rw [List.mapM_cons, Sem.run_bind]
      rw [h1, Result.andThen_ok, Sem.run_bind, k3, Result.andThen_ok]
      rfl
theorem results_sound (hM : Mem P base S η w) (hf : RepF P w η (Fix P S η) f a) {fn : Func} {K : List D → Prop} (hr : fn.results.all (resOk a.tmps.size) = true) (h : dresL P f S fn.results.toList K) :
    ∃ ds v, K ds ∧ Rep P w η (Fix P S η) (one ds) v ∧ (results fn a.tmps).run P w = .ok v w := by
  obtain ⟨ds, vs, k1, k2, k3⟩ := dresL_sound hM hf fn.results.toList (fun r hr' => Array.all_eq_true_iff_forall_mem.1 hr r (by simpa using hr')) h
  have hm : (fn.results.mapM (rv a.tmps)).run P w = .ok vs.toArray w := by
    rw [Array.mapM_eq_mapM_toList, map_eq_pure_bind, Sem.run_bind, k3, Result.andThen_ok]
    rfl
  have hrun : (results fn a.tmps).run P w = .ok (if h : vs.toArray.size = 1 then vs.toArray[0] else .tuple vs.toArray) w := by
    rw [results_rv, Sem.run_bind, hm, Result.andThen_ok]
    rfl
  have hl := k2.length
  cases ds with
  | nil =>
    have : vs = [] := List.eq_nil_of_length_eq_zero (by simpa using hl)
    subst this
    exact ⟨[], .tuple #[], k1, by simp only [one, Rep, RepL]; exact ⟨[], rfl, rfl⟩, hrun⟩
  | cons d1 ds =>
    cases vs with
    | nil => simp at hl
    | cons v1 vs =>
      cases ds with
      | nil =>
        have : vs = [] := List.eq_nil_of_length_eq_zero (by simpa using hl)
        subst this
        simp only [RepL] at k2
        obtain ⟨x, xs, h1, h2, h3⟩ := k2
        injection h1 with h1 _
        subst h1
        exact ⟨[d1], v1, k1, h2, hrun⟩
      | cons d2 ds =>
        refine ⟨_, .tuple (v1 :: vs).toArray, k1, by simp only [one, Rep]; exact ⟨_, rfl, k2⟩, ?_⟩
        rw [hrun, dif_neg (by simp only [List.size_toArray, List.length_cons] at hl ⊢; omega)]
theorem dcalls_of_dwp (hm : P.follows .mixedOrders = true) {g : FuncId} {fn : Func} {c : Code} (hf : P.funcs[g]? = some fn) (hb : fn.body = some c) (hent : ∀ vs w, (callFunc g vs).run P w = .ok (.enter g vs) w) {rs : List ResultVar} (hrs : fn.results.toList = rs) {args : List D} (hok : (codeOk fn.ntmps c && fn.results.all (resOk fn.ntmps) && Nat.ble args.length fn.ntmps) = true) {S : St} {K : D → St → Prop}
    (h : S.WF → dwp P c (DQ.fin P rs S K) (argF args) S) : DCalls P g args S K := by
  subst hrs
  intro base η w vs hM hr
  refine .inl ⟨hent _ _, ?_⟩
  simp only [Bool.and_eq_true] at hok
  obtain ⟨⟨hok1, hok2⟩, hok3⟩ := hok
  have hlen : args.length ≤ fn.ntmps := Nat.le_of_ble_eq_true hok3
  have hl := hr.length
  have hsz : (vs.toArray ++ Array.replicate (fn.ntmps - vs.toArray.size) undef).size = fn.ntmps := by simp; omega
  refine calls_of_wp hf hb ?_
  refine dwp_sound hm c (a := { tmps := vs.toArray ++ Array.replicate (fn.ntmps - vs.toArray.size) undef, defers := [] }) (by rw [hsz]; exact hok1) hM (fun t ht => ?_) (h hM.fresh) fun e f' S' η' w' a' k1 k2 k3 k4 k5 => ?_
  · rw [hsz] at ht
    simp only [argF]
    by_cases h1 : t < vs.length
    · obtain ⟨x, hx, hr'⟩ := hr.get t (List.getElem?_eq_getElem (by omega : t < args.length))
      have e1 : args.getD t undefD = args[t] := by rw [List.getD_eq_getElem?_getD, List.getElem?_eq_getElem (by omega : t < args.length)]; rfl
      have e2 : (vs.toArray ++ Array.replicate (fn.ntmps - vs.toArray.size) undef).getD t undef = x := by
        rw [Array.getD_eq_getD_getElem?, Array.getElem?_append_left (by simpa using h1)]
        simp [hx]
      rw [e1, e2]
      exact hr'
    · have e1 : args.getD t undefD = undefD := by rw [List.getD_eq_getElem?_getD, List.getElem?_eq_none (by omega)]; rfl
      have e2 : (vs.toArray ++ Array.replicate (fn.ntmps - vs.toArray.size) undef).getD t undef = undef := by
        rw [Array.getD_eq_getD_getElem?, Array.getElem?_append_right (by simpa using h1)]
        rw [Array.getElem?_replicate]
        split <;> rfl
      rw [e1, e2]
      simp only [Rep, RepL]
      exact ⟨[], rfl, rfl⟩
  · have hsz' : a'.tmps.size = fn.ntmps := by rw [k4]; exact hsz
    have hd' : a'.defers = [] := k5
    have fin : dresL P f' S' fn.results.toList (fun ds => DFinT P S S' (one ds) K) → a'.defers = [] ∧ ∃ v, (results fn a'.tmps).run P w' = .ok v w' ∧ ∃ d S'' η'' u, K d S'' ∧ Ending.returned v = .returned u ∧ Rep P w' η'' (Fix P S'' η'') d u ∧ Goes P base S η w S'' η'' w' := fun hres => by
      obtain ⟨ds, v, ⟨S1, d1, t1, d', S'', q1, q2, q3, q4, q5, q6⟩, q7, q8⟩ := results_sound k2.mem k3 (by rw [hsz']; exact hok2) hres
      obtain ⟨η3, t2, t3⟩ := t1 _ _ _ _ k2.mem q7
      obtain ⟨g1, g2⟩ := goes_fin hM (k2.trans t2) q3 q4 q5
      exact ⟨hd', v, q8, d', S'', _, v, q6, rfl, g2 d' v q2 (q1 _ _ _ _ _ t3), g1⟩
    cases e with
    | normal => exact fin k1
    | ret => exact fin k1
    | exit i => exact k1.elim
end

/-! ### Whose room it is, forgotten -/
mutual
def D.frz : D → D
  | .v x => .v x
  | .agg cs => .agg (frzL cs)
  | .tup cs => .tup (frzL cs)
  | .fn f fs cs => .fn f (frzL fs) (frzL cs)
  | .ifc t d => .ifc t d.frz
  | .loc k o => .loc k o
  | .rd cs o => .rd (frzL cs) o
  | .sl _ es => .sl .no (frzL es)
  | .win k off n c => .win k off n c
def frzL : List D → List D
  | [] => []
  | d :: l => d.frz :: frzL l
end
theorem frzL_map : ∀ l : List D, frzL l = l.map D.frz
  | [] => rfl
  | d :: l => by simp [frzL, frzL_map l]
theorem frzL_length : ∀ l : List D, (frzL l).length = l.length
  | [] => rfl
  | d :: l => by simp [frzL, frzL_length l]
theorem frz_isAgg (d : D) : d.frz.isAgg = d.isAgg := by cases d <;> rfl
section
variable {P : Program} {w : World} {η : Names} {X : Nat → Nat → Prop}
mutual
theorem Rep.frz : ∀ {d : D} {v : Value}, Rep P w η X d v → Rep P w η X d.frz v
  | .v x, v, h => by simp only [D.frz]; exact h
  | .agg cs, v, h => by
    simp only [D.frz, Rep] at *
    obtain ⟨vs, h1, h2, h3⟩ := h
    exact ⟨vs, h1, RepL.frz h2, h3⟩
  | .tup cs, v, h => by
    simp only [D.frz, Rep] at *
    obtain ⟨vs, h1, h2⟩ := h
    exact ⟨vs, h1, RepL.frz h2⟩
  | .fn f fs cs, v, h => by
    simp only [D.frz, Rep] at *
    obtain ⟨us, vs, h1, h2, h3⟩ := h
    exact ⟨us, vs, h1, RepL.frz h2, RepL.frz h3⟩
  | .ifc t d, v, h => by
    simp only [D.frz, Rep] at *
    obtain ⟨x, h1, h2⟩ := h
    exact ⟨x, h1, Rep.frz h2⟩
  | .loc k o, v, h => by simp only [D.frz]; exact h
  | .rd cs o, v, h => by
    simp only [D.frz, Rep] at *
    obtain ⟨b, p, h1, h2⟩ := h
    exact ⟨b, p, h1, RepC.frz h2⟩
  | .sl o es, v, h => by
    simp only [D.frz, Rep] at *
    rw [frzL_length]
    obtain ⟨A, c, h1, h2, h3, h4, h5⟩ := h
    refine ⟨A, c, h1, h2, h3, trivial, fun h0 => ?_⟩
    obtain ⟨b, p, z, e1, e2, e3⟩ := h5 h0
    exact ⟨b, p, z, e1, e2, RepE.frz z e3⟩
  | .win k off n c, v, h => by simp only [D.frz]; exact h
theorem RepL.frz : ∀ {l : List D} {vs : List Value}, RepL P w η X l vs → RepL P w η X (frzL l) vs
  | [], vs, h => by simp only [frzL]; exact h
  | d :: l, vs, h => by
    simp only [frzL, RepL] at *
    obtain ⟨x, xs, h1, h2, h3⟩ := h
    exact ⟨x, xs, h1, Rep.frz h2, RepL.frz h3⟩
theorem RepC.frz : ∀ {l : List D} {b o : Nat}, RepC P w η X l b o → RepC P w η X (frzL l) b o
  | [], b, o, h => by simp only [frzL]; exact h
  | d :: l, b, o, h => by
    simp only [frzL, RepC] at *
    obtain ⟨⟨h1, x, h2, h3, h4⟩, h5⟩ := h
    exact ⟨⟨h1, x, h2, h3, Rep.frz h4⟩, RepC.frz h5⟩
theorem RepE.frz (z : Nat) : ∀ {l : List D} {b o : Nat}, RepE P w η X z l b o → RepE P w η X z (frzL l) b o
  | [], b, o, h => by simp only [frzL]; exact h
  | d :: l, b, o, h => by
    simp only [frzL, RepE] at *
    obtain ⟨⟨h1, h2⟩, h5⟩ := h
    refine ⟨⟨RepA.frz z h1, fun hn => ?_⟩, RepE.frz z h5⟩
    rw [frz_isAgg] at hn
    obtain ⟨e1, e2, x, e3, e4, e5⟩ := h2 hn
    exact ⟨e1, e2, x, e3, e4, Rep.frz e5⟩
theorem RepA.frz (z : Nat) : ∀ {d : D} {b o : Nat}, RepA P w η X z d b o → RepA P w η X z d.frz b o
  | .agg cs, b, o, h => by
    simp only [D.frz, RepA] at *
    rw [frzL_length]
    exact ⟨h.1, RepC.frz h.2⟩
  | .v _, _, _, _ => by simp only [D.frz, RepA]
  | .tup _, _, _, _ => by simp only [D.frz, RepA]
  | .fn _ _ _, _, _, _ => by simp only [D.frz, RepA]
  | .ifc _ _, _, _, _ => by simp only [D.frz, RepA]
  | .loc _ _, _, _, _ => by simp only [D.frz, RepA]
  | .rd _ _, _, _, _ => by simp only [D.frz, RepA]
  | .sl _ _, _, _, _ => by simp only [D.frz, RepA]
  | .win _ _ _ _, _, _, _ => by simp only [D.frz, RepA]
end
end
theorem DLe.refl (d : D) : DLe d d := fun _ _ _ _ _ h => h
theorem DLe.frz (d : D) : DLe d d.frz := fun _ _ _ _ _ h => h.frz
def D.closed (d : D) : Prop := d.all fun _ => False
theorem St.Sub.refl (S : St) : S.Sub S := ⟨Nat.le_refl _, fun _ _ h => h⟩
theorem St.Sub.add {S S' : St} (h : S.Sub S') (hw : S.WF) (o : Ob) : S.Sub (S'.add o) := ⟨Nat.le_succ_of_le h.next, fun k o' hk => by
  have : k ≠ S'.next := fun e => by
    have hlt : k < S.next := by
      rcases Nat.lt_or_ge k S.next with h' | h'
      · exact h'
      · rw [hw k h'] at hk; cases hk
    have := h.next
    omega
  simp only [St.add]
  rw [if_neg this]
  exact h.ob k o' hk⟩
theorem St.WF.lt {S : St} (hw : S.WF) {k : Nat} {o : Ob} (h : S.ob k = some o) : k < S.next := by
  rcases Nat.lt_or_ge k S.next with h' | h'
  · exact h'
  · rw [hw k h'] at h; cases h
theorem St.Sub.set {S S' : St} (h : S.Sub S') (hw : S.WF) {k : Nat} (hk : S.next ≤ k) (o : Ob) : S.Sub (S'.set k o) := ⟨h.next, fun j o' hj => by
  have := hw.lt hj
  simp only [St.set]
  rw [if_neg (by omega)]
  exact h.ob j o' hj⟩
theorem St.Sub.drop {S S' : St} (h : S.Sub S') (hw : S.WF) {k : Nat} (hk : S.next ≤ k) : S.Sub (S'.drop k) := ⟨h.next, fun j o' hj => by
  have := hw.lt hj
  simp only [St.drop]
  rw [if_neg (by omega)]
  exact h.ob j o' hj⟩
theorem St.Sub.grow {S S' : St} (h : S.Sub S') (hw : S.WF) {own : Own} (ho : ∀ g, own = .row g → S.next ≤ g) (e : TypeId) (n : Nat) : S.Sub (S'.grow own e n) := by
  cases own with
  | row g => exact (h.drop hw (ho g rfl)).add hw _
  | no => exact h.add hw _
  | full => exact h.add hw _
structure PFin (S S' : St) (r d : D) : Prop where
  eq : r.frz = d
  sub : S.Sub S'
def DQ.pfin (P : Program) (rs : List ResultVar) (S : St) (d : D) : DQ
  | .exit _, _, _ => False
  | _, f, S' => dresL P f S' rs fun ds => PFin S S' (one ds) d
theorem dresL_mono {P : Program} {f : Fm} {S : St} : ∀ {l : List ResultVar} {K K' : List D → Prop}, (∀ ds, K ds → K' ds) → dresL P f S l K → dresL P f S l K'
  | [], _, _, h, k => h _ k
  | _ :: _, _, _, h, k => by
    unfold dresL at *
    exact onVal_mono (fun d hd => dresL_mono (fun ds hds => h _ hds) hd) k
theorem pfin_fin {P : Program} {rs : List ResultVar} {S : St} {d : D} (hw : S.WF) (hc : d.closed) : ∀ e f S', DQ.pfin P rs S d e f S' → DQ.fin P rs S (fun d' T => d' = d ∧ T = S) e f S' := by
  have key : ∀ f S', dresL P f S' rs (fun ds => PFin S S' (one ds) d) → dresL P f S' rs (fun ds => DFinT P S S' (one ds) fun d' T => d' = d ∧ T = S) := fun f S' h =>
    dresL_mono (fun ds ⟨h1, h2⟩ => DFin.t ⟨d, S, h1 ▸ DLe.frz _, D.all_mono (fun _ h => h.elim) hc, h2.next, Nat.le_refl _, fun k o hk => ⟨h2.ob k o hk, hw.lt hk, fun _ _ _ => .inl hk⟩, rfl, rfl⟩) h
  intro e f S' h
  cases e with
  | normal => exact key f S' h
  | ret => exact key f S' h
  | exit i => exact h
theorem dquiet_mono {P : Program} {f : Fm} {S : St} {ty : TypeId} {op : Op} {K K' : D → Prop} (h : ∀ d, K d → K' d) (hq : dquiet P f S ty op K) : dquiet P f S ty op K' := by
  obtain ⟨d, h1, h2⟩ := dquiet_iff.1 hq
  exact dquiet_iff.2 ⟨d, h1, h d h2⟩
theorem hop_mono {P : Program} {f : Fm} {S : St} {u : Option Ob} {ty : TypeId} {op : Op} {K K' : D → Option Ob → Prop} (h : ∀ d u, K d u → K' d u) (hq : hop P f S u ty op K) : hop P f S u ty op K' := by
  cases op with
  | alloc t => exact ⟨hq.1, hq.2.1, h _ _ hq.2.2⟩
  | box t x => exact ⟨hq.1, hq.2.1, h _ _ hq.2.2⟩
  | _ => simp only [hop] at hq ⊢; exact dquiet_mono (fun d hd => h d u hd) hq
theorem dhead_mono {P : Program} {ops : Array Oper} {S : St} {Q Q' : Fm → St → Prop} (h : ∀ f S, Q f S → Q' f S) : ∀ (l : List Oper) {f : Fm} {u : Option Ob}, dhead P ops S Q l f u → dhead P ops S Q' l f u
  | [], _, _, k => h _ _ k
  | o :: l, f, u, k => by
    unfold dhead at *
    split at k
    · exact hop_mono (fun d u' hd => dhead_mono h l hd) k
    · exact dwanted_mono (fun hq => dquiet_mono (fun d hd => dhead_mono h l hd) hq) (dhead_mono h l) k
theorem dwp_mono {P : Program} : ∀ (c : Code) {Q Q' : DQ} {f : Fm} {S : St}, (∀ e f S, Q e f S → Q' e f S) → dwp P c Q f S → dwp P c Q' f S := by
  intro c
  induction c with
  | region id ops draw =>
    intro Q Q' f S h k
    cases draw with
    | false => exact dops_mono (h .normal) _ k
    | true =>
      rcases k with ⟨n, h1, h2⟩ | ⟨Zs, n, h1, h2, h3⟩
      · exact .inl ⟨n, h1, dhead_mono (fun f' S' hf' => dops_mono (h .normal) _ hf') _ h2⟩
      · exact .inr ⟨Zs, n, h1, h2, sAny_mono (fun f' S' hf' => dops_mono (h .normal) _ hf') _ _ h3⟩
  | seq x y ihx ihy =>
    intro Q Q' f S h k
    refine ihx (fun e f2 S2 hq => ?_) k
    cases e with
    | normal =>
      have hq' : dwp P y Q f2 S2 := hq
      have h3 : dwp P y Q' f2 S2 := ihy (f := f2) (S := S2) h hq'
      exact h3
    | exit i => exact h _ _ _ hq
    | ret => exact h _ _ _ hq
  | cond g x y ihx ihy =>
    intro Q Q' f S h k
    unfold dwp at k ⊢
    generalize ev f g = u at k ⊢
    cases u with
    | v u => cases u with
      | bool b => exact ⟨fun e => ihx h (k.1 e), fun e => ihy h (k.2 e)⟩
      | _ => exact k
    | _ => exact k
  | block id c ih =>
    intro Q Q' f S h k
    refine ih (fun e f S hq => ?_) k
    cases e with
    | normal => exact h _ _ _ hq
    | ret => exact h _ _ _ hq
    | exit i =>
      simp only [DQ.block] at *
      cases hb : Nat.beq i id with
      | true => rw [hb] at hq; exact h _ _ _ hq
      | false => rw [hb] at hq; exact h _ _ _ hq
  | loop c ih =>
    intro Q Q' f S h k
    obtain ⟨I, μ, h0, hr⟩ := k
    refine ⟨I, μ, h0, fun g T hI => ih (fun e f S hq => ?_) (hr g T hI)⟩
    cases e with
    | normal => exact hq
    | exit i => exact h _ _ _ hq
    | ret => exact h _ _ _ hq
  | skip => intro Q Q' f S h k; exact h _ _ _ k
  | label l => intro Q Q' f S h k; exact h _ _ _ k
  | exit i => intro Q Q' f S h k; exact h _ _ _ k
  | ret => intro Q Q' f S h k; exact h _ _ _ k
  | rangeFunc x ps aa b _ _ => intro Q Q' f S _ k; exact k.elim
  | scope c _ => intro Q Q' f S _ k; exact k.elim
  | goto l => intro Q Q' f S _ k; exact k.elim
  | refuse s => intro Q Q' f S _ k; exact k.elim
theorem dpure_of_dwp {P : Program} (hm : P.follows .mixedOrders = true) {g : FuncId} {fn : Func} {c : Code} (hf : P.funcs[g]? = some fn) (hb : fn.body = some c) (hent : ∀ vs w, (callFunc g vs).run P w = .ok (.enter g vs) w) {rs : List ResultVar} (hrs : fn.results.toList = rs) {args : List D} (hok : (codeOk fn.ntmps c && fn.results.all (resOk fn.ntmps) && Nat.ble args.length fn.ntmps) = true) {d : D} (hc : d.closed)
    (h : ∀ S : St, S.WF → dwp P c (DQ.pfin P rs S d) (argF args) S) : DPure P g args d := fun S =>
  dcalls_of_dwp hm hf hb hent hrs hok fun hw => dwp_mono c (pfin_fin hw hc) (h S hw)
end Go.Proofs.YtonncfminojejaaDoor
