/- The walk over trees, shown: operations and regions. Conditions: none. -/
import Derived.Test.YtpnjkebjdclkfaaTw
import Derived.Test.YtpnjkebjdclkfaaRegion
import Derived.Deep.Quiet
namespace Go.Proofs.Ytpnjkebjdclkfaa
open Go.RowKit

section
variable {P : Program} {base : Nat} {S : St} {η : Names} {w : World} {f : Fm} {a : Act}
/-- What a step leaves behind: its value and its state are as K says. -/
def Left (P : Program) (base : Nat) (S : St) (η : Names) (w : World) (a : Act) (dst : Option Tmp) (K : D → St → Prop) (a' : Act) (w' : World) : Prop :=
  ∃ d v S' η', K d S' ∧ Goes P base S η w S' η' w' ∧ Rep P w' η' (Fix P S' η') d v ∧ a' = a.put dst v
theorem wp_value {o : Oper} {v : Value} {w' : World} {K : Act → World → Prop} {Q : Exit → Act → World → Prop} (h : (execOp a.eval o).run P w = .ok (.value v) w') (hk : K (a.put o.dst v) w') : o.wp P a w K Q := by
  unfold Oper.wp
  rw [h]
  exact hk
theorem wp_of_val (hM : Mem P base S η w) (hf : RepF P w η (Fix P S η) f a) {o : Oper} (hop : opsOk a.tmps.size o.op = true) {K : D → St → Prop} {Q : Exit → Act → World → Prop}
    (h : onVal (dval P f S o.type o.op) fun d => K d S) : o.wp P a w (Left P base S η w a o.dst K) Q := by
  cases hd : dval P f S o.type o.op with
  | none => rw [hd] at h; exact h.elim
  | some p =>
    obtain ⟨c, d⟩ := p
    rw [hd] at h
    obtain ⟨v, h1, h2⟩ := dval_sound hM hf hop hd h.1
    exact wp_value h1 ⟨d, v, S, η, h.2, Goes.refl hM, h2, rfl⟩
theorem wp_of_new (hM : Mem P base S η w) (hf : RepF P w η (Fix P S η) f a) {o : Oper} (hop : opsOk a.tmps.size o.op = true) {K : D → St → Prop} {Q : Exit → Act → World → Prop}
    (h : onVal (dnew P f S o.op) fun d => K d S) : o.wp P a w (Left P base S η w a o.dst K) Q := by
  cases hd : dnew P f S o.op with
  | none => rw [hd] at h; exact h.elim
  | some p =>
    obtain ⟨c, d⟩ := p
    rw [hd] at h
    obtain ⟨v, w', η', h1, h2, h3⟩ := dnew_sound hM hf hop hd h.1
    exact wp_value h1 ⟨d, v, S, η', h.2, h2, h3, rfl⟩
theorem wp_of_call (hM : Mem P base S η w) (hf : RepF P w η (Fix P S η) f a) (dst : Option Tmp) (x : Operand) (args : Array Operand) (ts : Array TypeId) (ty : TypeId) (pos : String) (after : Array Edge) (guard : Option (Nat × Bool))
    (hop : ∀ y ∈ (Op.call ⟨.value x, args, ts⟩).operands, opnOk a.tmps.size y = true) {g : FuncId} {fs cs : List D} (hx : ev f x = .fn (.func g) fs cs) {K : D → St → Prop} {Q : Exit → Act → World → Prop}
    (h : DCalls P g (fs ++ args.toList.map (ev f) ++ cs) S K) : Oper.wp P ⟨dst, .call ⟨.value x, args, ts⟩, ty, pos, after, guard⟩ a w (Left P base S η w a dst K) Q := by
  have h1 := hf.ev (hop x (by simp [Op.operands, Call.operands]))
  rw [hx] at h1
  simp only [Rep] at h1
  obtain ⟨us, vs, e1, e2, e3⟩ := h1
  have h2 := repL_map hf (l := args.toList) fun y hy => hop y (by simp only [Op.operands, Call.operands, Array.mem_append]; exact .inr (by simpa using hy))
  obtain ⟨k1, k2⟩ := h base η w (us ++ args.toList.map a.eval ++ vs) hM ((e2.append h2).append e3)
  unfold Oper.wp
  have hrun : (execOp a.eval ⟨dst, .call ⟨.value x, args, ts⟩, ty, pos, after, guard⟩).run P w = .ok (.enter g (us ++ args.toList.map a.eval ++ vs).toArray) w := by
    unfold execOp
    simp only [resolve, Sem.run_bind, e1, Deferred.ofValue, Sem.run_pure, Result.andThen_ok, invoke]
    rw [← k1]
    congr 2
    apply Array.ext'
    simp
  rw [hrun]
  simp only [Oper.upon]
  refine k2.mono fun e w' ⟨d, S', η', v, g1, g2, g3, g4⟩ => ?_
  subst g2
  exact ⟨d, v, S', η', g1, g4, g3, rfl⟩
theorem dop_sound (hM : Mem P base S η w) (hf : RepF P w η (Fix P S η) f a) {o : Oper} (hop : opsOk a.tmps.size o.op = true) {K : D → St → Prop} {Q : Exit → Act → World → Prop}
    (h : dop P f S o.type o.op K) : o.wp P a w (Left P base S η w a o.dst K) Q := by
  have hop' := opsOk_spec hop
  obtain ⟨dst, op, ty, pos, after, guard⟩ := o
  cases op with
  | alloc t =>
    simp only [dop] at h
    obtain ⟨h1, h2⟩ := h
    obtain ⟨z, i, hi, hz, hzd, hz1, _⟩ := zeroOk_spec h1
    have hrun : (execOp a.eval ⟨dst, .alloc t, ty, pos, after, guard⟩).run P w = .ok (.value (.pointer (some ⟨w.heap.size, 0, none⟩))) (w.alloc (.cells z.cells t)) := by
      unfold execOp
      simp only
      rw [Sem.run_bind, run_alloc_new t hi hz]
      rfl
    rw [hzd] at h2
    have G := goes_name hM (.box t (z.cells.toList.map ofV)) z.cells t (.inl ⟨_, z.cells.toList, rfl, by simp, zeroD_rep _, hz1⟩)
    exact wp_value hrun ⟨_, _, _, _, h2, G, by simp only [Rep]; exact ⟨w.heap.size, by simp only [Names.add, ↓reduceIte], rfl⟩, rfl⟩
  | box t x =>
    simp only [dop] at h
    obtain ⟨h1, h2⟩ := h
    have hx := (hf.ev (hop' x (by simp [Op.operands]))).cells_ h1
    have hrun : (execOp a.eval ⟨dst, .box t x, ty, pos, after, guard⟩).run P w = .ok (.value (.pointer (some ⟨w.heap.size, 0, none⟩))) (w.alloc (.cells (a.eval x).cells t)) := by
      unfold execOp
      simp only
      rw [Sem.run_bind, run_box_new]
      rfl
    have G := goes_name hM (.box t (ev f x).cells) (a.eval x).cells t (.inl ⟨_, (a.eval x).cells.toList, rfl, by simp, hx.1, hx.2.1⟩)
    exact wp_value hrun ⟨_, _, _, _, h2, G, by simp only [Rep]; exact ⟨w.heap.size, by simp only [Names.add, ↓reduceIte], rfl⟩, rfl⟩
  | store t x y =>
    simp only [dop] at h
    have h1 := hf.ev (hop' x (by simp [Op.operands]))
    have h2 := hf.ev (hop' y (by simp [Op.operands]))
    split at h
    · rename_i k off hx
      rw [hx] at h1
      simp only [Rep] at h1
      obtain ⟨b, e1, e2⟩ := h1
      split at h
      · rename_i t' cs hk
        obtain ⟨g1, g2, g3, g4, g5⟩ := h
        obtain ⟨i, hi⟩ := Option.isSome_iff_exists.1 g2
        have hsz : szOf P t = i.size := by simp [szOf, hi]
        obtain ⟨c1, c2, c3⟩ := h2.cells_ g1
        obtain ⟨vs, k1, k2, k3⟩ := hM.box k t' cs b hk e1
        have hl := k2.length
        have hrun : (execOp a.eval ⟨dst, .store t x y, ty, pos, after, guard⟩).run P w = .ok .skip (w.setRow b (vs.take off ++ (a.eval y).cells.toList ++ vs.drop (off + (a.eval y).cells.toList.length)).toArray) := by
          unfold execOp
          simp only
          rw [Sem.run_bind, e2, run_store_box k1 hi (by rw [c3, g3, hsz]) c2 (by omega)]
          rfl
        have hcl : (splice cs off (ev f y).cells).length = cs.length := by
          have : (ev f y).cells.length = szOf P t := g3
          simp only [splice, List.length_append, List.length_take, List.length_drop]
          omega
        have G := goes_set hM hk e1 hcl (splice_rep k2 c1) (fun u hu => by
          rcases List.mem_append.1 hu with hu | hu
          · rcases List.mem_append.1 hu with hu | hu
            · exact k3 u (List.mem_of_mem_take hu)
            · exact c2 u hu
          · exact k3 u (List.mem_of_mem_drop hu))
        unfold Oper.wp
        rw [hrun]
        exact ⟨_, _, _, _, g5, G, by simp only [Rep, RepL]; exact ⟨[], rfl, rfl⟩, rfl⟩
      · exact h.elim
    · exact h.elim
  | buildSlice t n ps => exact wp_of_new hM hf hop h
  | build t ps => exact wp_of_new hM hf hop h
  | call cl =>
    obtain ⟨callee, args, ts⟩ := cl
    cases callee with
    | value x =>
      simp only [dop] at h
      split at h
      · rename_i g fs cs hx
        exact wp_of_call hM hf dst x args ts ty pos after guard hop' hx h
      · exact h.elim
    | invoke r m => exact wp_of_val hM hf hop h
    | builtin b =>
      by_cases hb : b = .append
      · subst hb
        simp only [dop] at h
        split at h
        · rename_i own es own2 es2 t tx h1 h2
          split at h
          · rename_i e he
            obtain ⟨k1, k2, k3, k4, k5, k6, k7, k8⟩ := h
            have hown : own = .full ∨ ∃ g, own = .row g ∧ S.ob g = some (.row e es.length) := by
              cases own with
              | no => exact k5.elim
              | full => exact .inl rfl
              | row g => exact .inr ⟨g, rfl, k5⟩
            obtain ⟨v', η', w', g1, g2, g3⟩ := append_op (ty := ty) (cs := args.map isConstB) hM hf (fun x hx => hop' x (by simp only [Op.operands, Call.operands, Array.mem_append]; exact .inr (by simpa using hx))) h1 h2 he k1 k2 k3 k4 hown k6 k7
            exact wp_value (by rw [run_builtin_op]; exact g1) ⟨_, v', _, η', k8, g2, g3, rfl⟩
          · exact h.elim
        · exact h.elim
      · refine wp_of_val hM hf hop ?_
        cases b <;> first | exact h | exact absurd rfl hb
  | _ => exact wp_of_val hM hf hop h
/-- Is an operation wanted, told by the frame of trees? -/
def gval (ops : Array Oper) (f : Fm) (o : Oper) : Option Bool := match o.guard with
  | none => some true
  | some (j, want) => match (ops[j]?).bind (·.dst) with
    | some t => match f t with
      | .v (.bool b) => some (b == want)
      | .tup [] => some false
      | _ => none
    | none => none
theorem dwanted_iff {ops : Array Oper} {o : Oper} {y n : Prop} : dwanted ops f o y n ↔ ∃ g, gval ops f o = some g ∧ (g = true → y) ∧ (g = false → n) := by
  unfold dwanted gval
  cases o.guard with
  | none => simp
  | some p =>
    obtain ⟨j, want⟩ := p
    simp only
    cases (ops[j]?).bind (·.dst) with
    | none => simp
    | some t =>
      simp only
      generalize f t = x
      cases x with
      | v u => cases u with
        | bool b => cases b <;> cases want <;> simp
        | _ => simp
      | tup l => cases l <;> simp
      | _ => simp
/-- The temporaries that an operation writes and asks are there. -/
def operOk (n : Nat) (ops : Array Oper) (o : Oper) : Bool := opsOk n o.op && match o.guard with
  | none => true
  | some (j, _) => match (ops[j]?).bind (·.dst) with
    | some t => Nat.blt t n
    | none => true
theorem gval_spec (hf : RepF P w η (Fix P S η) f a) {ops : Array Oper} {o : Oper} (hok : operOk a.tmps.size ops o = true) {g : Bool} (h : gval ops f o = some g) : Region.wanted o (yielded ops a.tmps) = g := by
  simp only [operOk, Bool.and_eq_true] at hok
  obtain ⟨_, hok⟩ := hok
  unfold gval at h
  unfold Region.wanted
  cases hg : o.guard with
  | none => rw [hg] at h; simpa using h
  | some p =>
    obtain ⟨j, want⟩ := p
    rw [hg] at h hok
    simp only at h hok ⊢
    cases hd : (ops[j]?).bind (·.dst) with
    | none => rw [hd] at h; cases h
    | some t =>
      rw [hd] at h hok
      simp only at h hok
      have hlt : t < a.tmps.size := by simpa [Nat.blt_eq] using hok
      have hr := hf t hlt
      have hget : a.tmps[t]? = some (a.tmps.getD t undef) := by simp [hlt]
      split at h
      · rename_i b hb
        rw [hb] at hr
        simp only [Rep] at hr
        injection h with h
        rw [hr] at hget
        simp only [yielded, hd, Option.bind_some, hget]
        rw [← h]
        cases b <;> cases want <;> rfl
      · rename_i hb
        rw [hb] at hr
        simp only [Rep, RepL] at hr
        obtain ⟨vs, hr, rfl⟩ := hr
        injection h with h
        rw [hr] at hget
        simp only [yielded, hd, Option.bind_some, hget]
        rw [← h]
        rfl
      · cases h
/-- A list of operations, one behind the other. -/
theorem dops_sound {ops : Array Oper} {Q : Fm → St → Prop} {Q' : Exit → Act → World → Prop} : ∀ (l : List Oper) {S : St} {η : Names} {w : World} {f : Fm} {a : Act}, (∀ o ∈ l, operOk a.tmps.size ops o = true) → Mem P base S η w → RepF P w η (Fix P S η) f a → dops P ops Q l f S →
    (∀ f' S' η' w' a', Q f' S' → Goes P base S η w S' η' w' → RepF P w' η' (Fix P S' η') f' a' → a'.tmps.size = a.tmps.size → a'.defers = a.defers → Q' .normal a' w') → wpList P ops Q' l a w
  | [], S, η, w, f, a, _, hM, hf, h, hq => hq f S η w a h (Goes.refl hM) hf rfl rfl
  | o :: l, S, η, w, f, a, hok, hM, hf, h, hq => by
    have ho := hok o (by simp)
    have size_put : ∀ (dst : Option Tmp) (v : Value), (a.put dst v).tmps.size = a.tmps.size := fun dst v => by cases dst <;> simp [Act.put]
    have def_put : ∀ (dst : Option Tmp) (v : Value), (a.put dst v).defers = a.defers := fun dst v => by cases dst <;> rfl
    unfold dops at h
    obtain ⟨g, hg, hy, hno⟩ := dwanted_iff.1 h
    have hwt := gval_spec hf ho hg
    have hop : opsOk a.tmps.size o.op = true := by simp only [operOk, Bool.and_eq_true] at ho; exact ho.1
    unfold wpList
    cases g with
    | true =>
      rw [if_pos hwt]
      refine .inl ?_
      have := dop_sound (Q := Q') hM hf hop (hy rfl)
      refine Oper.wp_mono (fun a' w' ⟨d, v, S', η', k1, k2, k3, k4⟩ => ?_) this
      subst k4
      exact dops_sound l (fun o' ho' => by rw [size_put]; exact hok o' (by simp [ho'])) k2.mem ((k2.repF hf).put k3 o.dst) k1 (fun f' S'' η'' w'' a'' g1 g2 g3 g4 g5 => hq f' S'' η'' w'' a'' g1 (k2.trans g2) g3 (g4.trans (size_put _ _)) (g5.trans (def_put _ _)))
    | false =>
      rw [if_neg (by rw [hwt]; simp)]
      have hu : Rep P w η (Fix P S η) undefD undef := by simp only [Rep, RepL]; exact ⟨[], rfl, rfl⟩
      exact dops_sound l (fun o' ho' => by rw [size_put]; exact hok o' (by simp [ho'])) hM (hf.put hu o.dst) (hno rfl) (fun f' S'' η'' w'' a'' g1 g2 g3 g4 g5 => hq f' S'' η'' w'' a'' g1 g2 g3 (g4.trans (size_put _ _)) (g5.trans (def_put _ _)))

/-! ### A region that draws its order -/
def dquietR (P : Program) (f : Fm) (S : St) (ty : TypeId) (op : Op) (d : D) : Prop := match op with
  | .call ⟨.value x, args, _⟩ => match ev f x with
    | .fn (.func g) fs cs => DAt P g (fs ++ args.toList.map (ev f) ++ cs) S d
    | _ => False
  | op => onVal2 (dnew P f S op) (dval P f S ty op) fun d' => d' = d
theorem onVal_iff {o : Option (Prop × D)} {K : D → Prop} : onVal o K ↔ ∃ d, onVal o (fun d' => d' = d) ∧ K d := by
  cases o with
  | some p => obtain ⟨c, d⟩ := p; exact ⟨fun h => ⟨d, ⟨h.1, rfl⟩, h.2⟩, fun ⟨_, ⟨h1, h2⟩, h3⟩ => ⟨h1, h2 ▸ h3⟩⟩
  | none => exact ⟨fun h => h.elim, fun ⟨_, h, _⟩ => h.elim⟩
theorem onVal2_iff {o o' : Option (Prop × D)} {K : D → Prop} : onVal2 o o' K ↔ ∃ d, onVal2 o o' (fun d' => d' = d) ∧ K d := by
  cases o with
  | some p => obtain ⟨c, d⟩ := p; exact ⟨fun h => ⟨d, ⟨h.1, rfl⟩, h.2⟩, fun ⟨_, ⟨h1, h2⟩, h3⟩ => ⟨h1, h2 ▸ h3⟩⟩
  | none => exact onVal_iff
theorem dquiet_iff {f : Fm} {S : St} {ty : TypeId} {op : Op} {K : D → Prop} : dquiet P f S ty op K ↔ ∃ d, dquietR P f S ty op d ∧ K d := by
  unfold dquiet dquietR
  cases op with
  | call cl =>
    obtain ⟨callee, args, ts⟩ := cl
    cases callee with
    | value x =>
      dsimp only
      generalize ev f x = y
      cases y with
      | fn g fs cs => cases g <;> simp
      | _ => simp
    | builtin b => exact onVal2_iff
    | invoke r m => exact onVal2_iff
  | _ => exact onVal2_iff
theorem dquiet_sound (hM : Mem P base S η w) (hf : RepF P w η (Fix P S η) f a) {o : Oper} (hop : opsOk a.tmps.size o.op = true) {d : D} {Q : Exit → Act → World → Prop}
    (h : dquietR P f S o.type o.op d) : o.wp P a w (Left P base S η w a o.dst fun d' S' => d' = d ∧ S' = S) Q := by
  have hop' := opsOk_spec hop
  obtain ⟨dst, op, ty, pos, after, guard⟩ := o
  unfold dquietR at h
  simp only at h
  split at h
  · rename_i x args ts
    split at h
    · rename_i g fs cs hx
      exact wp_of_call hM hf dst x args ts ty pos after guard hop' hx h
    · exact h.elim
  · have up : ∀ o : Option (Prop × D), onVal o (fun d' => d' = d) → onVal o (fun d' => d' = d ∧ S = S) := fun o ho => by
      cases o with
      | some p => exact ⟨ho.1, ho.2, rfl⟩
      | none => exact ho
    cases hd : dnew P f S op with
    | some p =>
      rw [hd] at h
      refine wp_of_new hM hf hop ?_
      show onVal (dnew P f S op) _
      rw [hd]
      exact up (some p) h
    | none =>
      rw [hd] at h
      exact wp_of_val hM hf hop (up _ h)
/-- An operation looks at its operands alone. -/
theorem ev_lists {f f' : Fm} {l : List Operand} (h : ∀ x ∈ l, ev f x = ev f' x) : l.map (ev f) = l.map (ev f') := List.map_congr_left h
theorem bnd_congr {f f' : Fm} {o : Option Operand} {d : Int} (h : ∀ x, o = some x → ev f x = ev f' x) : bnd f o d = bnd f' o d := by
  cases o with
  | none => rfl
  | some x => simp only [bnd, h x rfl]
theorem dval_congr {f f' : Fm} {S : St} {ty : TypeId} {op : Op} (h : ∀ x ∈ op.operands, ev f x = ev f' x) : dval P f S ty op = dval P f' S ty op := by
  cases op with
  | slice t x lo hi mx =>
    have h1 := h x (by simp [Op.operands])
    have h2 : ∀ d, bnd f lo d = bnd f' lo d := fun d => bnd_congr fun y hy => h y (by simp [Op.operands, hy])
    have h3 : ∀ d, bnd f hi d = bnd f' hi d := fun d => bnd_congr fun y hy => h y (by simp [Op.operands, hy])
    cases mx with
    | none => simp only [dval, h1, h2, h3]
    | some mx =>
      have h4 : ∀ d, bnd f (some mx) d = bnd f' (some mx) d := fun d => bnd_congr fun y hy => h y (by injection hy with hy; subst hy; simp [Op.operands])
      simp only [dval, h1, h2, h3, h4]
  | makeFunc fn fs cs =>
    have h1 := ev_lists (l := fs.toList) fun x hx => h x (by simp only [Op.operands, Array.mem_append]; exact .inl (by simpa using hx))
    have h2 := ev_lists (l := cs.toList) fun x hx => h x (by simp only [Op.operands, Array.mem_append]; exact .inr (by simpa using hx))
    simp only [dval, h1, h2]
  | call c =>
    obtain ⟨callee, args, ts⟩ := c
    cases callee with
    | builtin b =>
      have h1 := ev_lists (l := args.toList) fun x hx => h x (by simp only [Op.operands, Call.operands, Array.mem_append]; exact .inr (by simpa using hx))
      simp only [dval, h1]
    | value x => rfl
    | invoke r m => rfl
  | pick c x y =>
    have h1 := h c (by simp [Op.operands])
    have h2 := h x (by simp [Op.operands])
    have h3 := h y (by simp [Op.operands])
    simp only [dval, h1, h2, h3]
  | move x => simp only [dval, h x (by simp [Op.operands])]
  | assign x => simp only [dval, h x (by simp [Op.operands])]
  | load t x => simp only [dval, h x (by simp [Op.operands])]
  | fieldAddr t x i => simp only [dval, h x (by simp [Op.operands])]
  | field t x i => simp only [dval, h x (by simp [Op.operands])]
  | indexAddr t x i => simp only [dval, h x (by simp [Op.operands]), h i (by simp [Op.operands])]
  | index t x i => simp only [dval, h x (by simp [Op.operands]), h i (by simp [Op.operands])]
  | extract x i => simp only [dval, h x (by simp [Op.operands])]
  | makeInterface t x => simp only [dval, h x (by simp [Op.operands])]
  | nilCheck x => simp only [dval, h x (by simp [Op.operands])]
  | binOp op t x y u => simp only [dval, h x (by simp [Op.operands]), h y (by simp [Op.operands])]
  | unOp op t x => simp only [dval, h x (by simp [Op.operands])]
  | convert s t x => simp only [dval, h x (by simp [Op.operands])]
  | _ => rfl
theorem dnew_congr {f f' : Fm} {S : St} {op : Op} (h : ∀ x ∈ op.operands, ev f x = ev f' x) : dnew P f S op = dnew P f' S op := by
  cases op with
  | buildSlice t n ps =>
    have h1 : (ps.toList.map fun p => ev f p.2) = ps.toList.map fun p => ev f' p.2 := List.map_congr_left fun p hp => h p.2 (by simp only [Op.operands]; simp; exact ⟨p.1, by simpa using hp⟩)
    simp only [dnew, h1]
  | build t ps =>
    have h1 : (ps.toList.map fun p => (p.1, ev f p.2)) = ps.toList.map fun p => (p.1, ev f' p.2) := List.map_congr_left fun p hp => by rw [h p.2 (by simp only [Op.operands]; simp; exact ⟨p.1, by simpa using hp⟩)]
    simp only [dnew, h1]
  | call c =>
    obtain ⟨callee, args, ts⟩ := c
    cases callee with
    | builtin b =>
      have h1 := ev_lists (l := args.toList) fun x hx => h x (by simp only [Op.operands, Call.operands, Array.mem_append]; exact .inr (by simpa using hx))
      cases b <;> first | rfl | simp only [dnew, h1]
    | value x => rfl
    | invoke r m => rfl
  | _ => rfl
theorem dquietR_congr {f f' : Fm} {S : St} {ty : TypeId} {op : Op} {d : D} (h : ∀ x ∈ op.operands, ev f x = ev f' x) (hq : dquietR P f S ty op d) : dquietR P f' S ty op d := by
  unfold dquietR at *
  split at hq
  · rename_i x args ts
    have h1 := h x (by simp [Op.operands, Call.operands])
    have h2 := ev_lists (l := args.toList) fun x hx => h x (by simp only [Op.operands, Call.operands, Array.mem_append]; exact .inr (by simpa using hx))
    rw [← h1, ← h2]
    exact hq
  · rw [← dnew_congr h, ← dval_congr h]
    exact hq

/-! Any order of a region's head -/
section
variable {ops : Array Oper} {md : Region.Mode}
/-- In the frame f the operation leaves d in its temporary. -/
def Yd (P : Program) (ops : Array Oper) (S : St) (o : Oper) (d : D) (f : Fm) : Prop := (gval ops f o = some true ∧ dquietR P f S o.type o.op d) ∨ (gval ops f o = some false ∧ d = undefD)
def hOp (P : Program) (ops : Array Oper) (S : St) (i : Nat) (K : Fm → Prop) (f : Fm) : Prop := match ops[i]? with
  | none => K f
  | some o => ∃ d, Yd P ops S o d f ∧ K (put f o.dst d)
def hAny (P : Program) (md : Region.Mode) (ops : Array Oper) (S : St) (Q : Fm → Prop) : Nat → Array Bool → Fm → Prop
  | 0, L, f => Region.ready md ops L = [] ∧ Q f
  | n + 1, L, f => (Region.ready md ops L = [] → Q f) ∧ ∀ i ∈ Region.ready md ops L, hOp P ops S i (hAny P md ops S Q n (L.setIfInBounds i true)) f
theorem hOp_mono {i : Nat} {K K' : Fm → Prop} {f : Fm} (h : ∀ f, K f → K' f) (hh : hOp P ops S i K f) : hOp P ops S i K' f := by
  unfold hOp at *
  split at hh
  · exact h _ hh
  · obtain ⟨d, h1, h2⟩ := hh
    exact ⟨d, h1, h _ h2⟩
theorem put_comm (f : Fm) {x y : Option Tmp} (d e : D) (h : ∀ t, x = some t → y ≠ some t) : put (put f x d) y e = put (put f y e) x d := by
  cases x with
  | none => rfl
  | some t => cases y with
    | none => rfl
    | some u =>
      have hne : t ≠ u := fun e => h t rfl (e ▸ rfl)
      funext i
      simp only [put]
      cases h1 : Nat.beq i t <;> cases h2 : Nat.beq i u <;> simp
      exact absurd ((Nat.eq_of_beq_eq_true h1).symm.trans (Nat.eq_of_beq_eq_true h2)) hne
theorem put_same {f : Fm} {x : Option Tmp} {d : D} {t : Nat} (h : x ≠ some t) : put f x d t = f t := by
  cases x with
  | none => rfl
  | some u =>
    simp only [put]
    cases hb : Nat.beq t u with
    | false => rfl
    | true => exact absurd (by rw [Nat.eq_of_beq_eq_true hb]) h
theorem ev_put {f : Fm} {x : Option Tmp} {d : D} {y : Operand} (h : ∀ t, y = .tmp t → x ≠ some t) : ev (put f x d) y = ev f y := by
  cases y with
  | tmp t => exact put_same (h t rfl)
  | _ => rfl
/-- What an operation looks at. -/
theorem Yd_put {o : Oper} {d e : D} {f : Fm} {x : Option Tmp} (h : ∀ t, x = some t → t ∉ o.looksAt ops) : Yd P ops S o d (put f x e) ↔ Yd P ops S o d f := by
  have hev : ∀ y ∈ o.op.operands, ev (put f x e) y = ev f y := fun y hy => ev_put fun t ht hx => h t hx (by
    subst ht
    simp only [Oper.looksAt, List.mem_append, List.mem_filterMap]
    exact .inl ⟨.tmp t, by simpa using hy, rfl⟩)
  have hg : gval ops (put f x e) o = gval ops f o := by
    unfold gval
    cases hgd : o.guard with
    | none => rfl
    | some p =>
      obtain ⟨j, want⟩ := p
      simp only
      cases hd : (ops[j]?).bind (·.dst) with
      | none => rfl
      | some t =>
        simp only
        rw [put_same (fun hx => h t hx (by simp only [Oper.looksAt, hgd, hd, List.mem_append]; exact .inr (by simp)))]
  unfold Yd
  rw [hg]
  exact ⟨fun h => h.imp (fun h => ⟨h.1, dquietR_congr hev h.2⟩) id, fun h => h.imp (fun h => ⟨h.1, dquietR_congr (fun y hy => (hev y hy).symm) h.2⟩) id⟩
theorem hOp_put {j : Nat} {oi oj : Oper} {v : D} (hj : ops[j]? = some oj) (hap : oi.apart ops oj = true) {K : Fm → Prop} {f : Fm} (hy : Yd P ops S oi v f) (h : hOp P ops S j K (put f oi.dst v)) :
    hOp P ops S j (fun f' => Yd P ops S oi v f' ∧ K (put f' oi.dst v)) f := by
  obtain ⟨h1, h2, h3⟩ := Oper.apart_spec hap
  unfold hOp at *
  simp only [hj] at *
  obtain ⟨d, hd, hk⟩ := h
  refine ⟨d, (Yd_put h1).1 hd, (Yd_put h3).2 hy, ?_⟩
  rw [← put_comm f v d h2]
  exact hk
theorem hAny_first {Q : Fm → Prop} {i : Nat} {oi : Oper} {v : D} (hi : ops[i]? = some oi) :
    ∀ (fuel : Nat) (L : Array Bool) (f : Fm),
      (∀ j oj, ops[j]? = some oj → j ≠ i → L.getD j true = false → (∀ e ∈ oj.after, Region.binds md e = true → e.on ≠ i) → oi.apart ops oj = true) →
      i ∈ Region.ready md ops L → Yd P ops S oi v f → hAny P md ops S Q fuel (L.setIfInBounds i true) (put f oi.dst v) → hAny P md ops S Q (fuel + 1) L f := by
  have here : ∀ {K : Fm → Prop} {f : Fm}, Yd P ops S oi v f → K (put f oi.dst v) → hOp P ops S i K f := fun hy hk => by
    unfold hOp; simp only [hi]; exact ⟨v, hy, hk⟩
  intro fuel
  induction fuel with
  | zero =>
    intro L f _ hr hy H
    refine ⟨fun h => (by rw [h] at hr; cases hr), fun j hj => ?_⟩
    by_cases hji : j = i
    · subst hji; exact here hy H
    · have := ready_mono hj hji
      rw [H.1] at this
      cases this
  | succ fuel ih =>
    intro L f hfree hr hy H
    refine ⟨fun h => (by rw [h] at hr; cases hr), fun j hj => ?_⟩
    by_cases hji : j = i
    · subst hji; exact here hy H
    · have h1 := H.2 j (ready_mono hj hji)
      obtain ⟨hjun, oj, hoj, hall⟩ := mem_ready.1 hj
      have hnot : ∀ e ∈ oj.after, Region.binds md e = true → e.on ≠ i := fun e he hb heq => by
        have h1 := hall e he hb
        have h0 := (mem_ready.1 hr).1
        rw [heq] at h1
        rcases Nat.lt_or_ge i L.size with h' | h'
        · simp [h'] at h0 h1; rw [h0] at h1; cases h1
        · simp [Array.getElem?_eq_none h'] at h1
      have h2 := hOp_put hoj (hfree j oj hoj hji hjun hnot) hy h1
      have hfree' : ∀ k ok, ops[k]? = some ok → k ≠ i → (L.setIfInBounds j true).getD k true = false →
          (∀ e ∈ ok.after, Region.binds md e = true → e.on ≠ i) → oi.apart ops ok = true := fun k ok hk hki hun hno => by
        refine hfree k ok hk hki ?_ hno
        by_cases hjk : j = k
        · subst hjk; exact hjun
        · rw [getD_set_ne true hjk] at hun; exact hun
      refine hOp_mono (fun a' h3 => ih (L.setIfInBounds j true) a' hfree' (ready_mono hr (Ne.symm hji)) h3.1 ?_) h2
      rw [Array.setIfInBounds_comm _ _ hji]
      exact h3.2
theorem hAny_lex {Q : Fm → Prop} : ∀ (l : List Oper) (k : Nat) (L : Array Bool) (f : Fm), (∀ j, l[j]? = ops[k + j]?) →
    Region.lexFrom md ops l.length k L = true → dhead P ops S Q l f → hAny P md ops S Q l.length L f
  | [], _, _, _, _, hB, h => ⟨by simpa [Region.lexFrom] using hB, h⟩
  | o :: l, k, L, f, hl, hB, h => by
    have h0 : ops[k]? = some o := by simpa using (hl 0).symm
    simp only [List.length_cons, Region.lexFrom, Bool.and_eq_true] at hB
    obtain ⟨⟨hr, hf⟩, hB'⟩ := hB
    unfold dhead at h
    obtain ⟨g, hg, hy, hn⟩ := dwanted_iff.1 h
    obtain ⟨v, hv, hK⟩ : ∃ v, Yd P ops S o v f ∧ dhead P ops S Q l (put f o.dst v) := by
      cases g with
      | true =>
        obtain ⟨d, h1, h2⟩ := dquiet_iff.1 (hy rfl)
        exact ⟨d, .inl ⟨hg, h1⟩, h2⟩
      | false => exact ⟨undefD, .inr ⟨hg, rfl⟩, hn rfl⟩
    exact hAny_first h0 l.length L f (Region.free_spec h0 hf) (by simpa using hr) hv
      (hAny_lex l (k + 1) _ _ (fun j => by have := hl (j + 1); simpa [Nat.add_assoc, Nat.add_comm 1 j] using this) hB' hK)
theorem size_put (a : Act) (dst : Option Tmp) (v : Value) : (a.put dst v).tmps.size = a.tmps.size := by cases dst <;> simp [Act.put]
theorem defers_put (a : Act) (dst : Option Tmp) (v : Value) : (a.put dst v).defers = a.defers := by cases dst <;> rfl
theorem wpAny_of_head {Q : Fm → Prop} {Q' : Exit → Act → World → Prop} {n : Nat} (hok : ∀ (j : Nat) (o : Oper), ops[j]? = some o → operOk n ops o = true) : ∀ (fuel : Nat) (L : Array Bool) {η : Names} {w : World} {f : Fm} {a : Act}, Mem P base S η w → RepF P w η (Fix P S η) f a → a.tmps.size = n → hAny P md ops S Q fuel L f →
    (∀ f' η' w' a', Q f' → Goes P base S η w S η' w' → RepF P w' η' (Fix P S η') f' a' → a'.tmps.size = n → a'.defers = a.defers → Q' .normal a' w') → wpAny P md ops Q' fuel L a w
  | 0, _, η, w, f, a, hM, hf, hn, h, hq => ⟨h.1, hq f η w a h.2 (Goes.refl hM) hf hn rfl⟩
  | fuel + 1, L, η, w, f, a, hM, hf, hn, h, hq => by
    refine ⟨fun h0 => hq f η w a (h.1 h0) (Goes.refl hM) hf hn rfl, fun i hi => ?_⟩
    have h2 := h.2 i hi
    have goOn : ∀ {dst : Option Tmp} {d : D} {v : Value} {η1 : Names} {w1 : World}, hAny P md ops S Q fuel (L.setIfInBounds i true) (put f dst d) → Goes P base S η w S η1 w1 → Rep P w1 η1 (Fix P S η1) d v → wpAny P md ops Q' fuel (L.setIfInBounds i true) (a.put dst v) w1 := fun {dst d v η1 w1} k1 k2 k3 =>
      wpAny_of_head hok fuel _ k2.mem ((k2.repF hf).put k3 dst) (by rw [size_put]; exact hn) k1 (fun f' η' w' a' g1 g2 g3 g4 g5 => hq f' η' w' a' g1 (k2.trans g2) g3 g4 (by rw [g5, defers_put]))
    unfold hOp at h2
    unfold wpOp
    cases ho : ops[i]? with
    | none =>
      rw [ho] at h2
      exact wpAny_of_head hok fuel _ hM hf hn h2 hq
    | some o =>
      rw [ho] at h2
      simp only at h2 ⊢
      have hoo := hok i o ho
      rw [← hn] at hoo
      obtain ⟨d, hy, hK⟩ := h2
      rcases hy with ⟨hg, hr⟩ | ⟨hg, rfl⟩
      · rw [if_pos (gval_spec hf hoo hg)]
        refine .inl ?_
        have hop : opsOk a.tmps.size o.op = true := by simp only [operOk, Bool.and_eq_true] at hoo; exact hoo.1
        refine Oper.wp_mono (fun a' w' ⟨d', v, S', η', k1, k2, k3, k4⟩ => ?_) (dquiet_sound (Q := Q') hM hf hop hr)
        obtain ⟨rfl, rfl⟩ := k1
        subst k4
        exact goOn hK k2 k3
      · rw [if_neg (by rw [gval_spec hf hoo hg]; simp)]
        exact goOn hK (Goes.refl hM) (by simp only [Rep, RepL]; exact ⟨[], rfl, rfl⟩)
end
end
end Go.Proofs.Ytpnjkebjdclkfaa
