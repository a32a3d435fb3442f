/- A value that is being built: its names and its parts are rows of the call's own. Conditions: none. -/
import Derived.Test.YtpnjkebjdclkfaaSchG
import Derived.Test.YtpnjkebjdclkfaaSchC
namespace Go.Proofs.Ytpnjkebjdclkfaa
open Go.RowKit

theorem flat_get {n : Nat} : ∀ {Cs : List (List Value)} {i j : Nat} {C : List Value}, (∀ D ∈ Cs, D.length = n) → Cs[i]? = some C → j < n → Cs.flatten[i * n + j]? = C[j]?
  | [], i, j, C, _, hi, _ => by simp at hi
  | D :: Cs, 0, j, C, hl, hi, hj => by
    have e : D = C := by simpa using hi
    subst e
    have h1 := hl D (by simp)
    rw [List.flatten_cons, List.getElem?_append_left (by omega)]
    simp
  | D :: Cs, i + 1, j, C, hl, hi, hj => by
    have h1 := hl D (by simp)
    have := flat_get (n := n) (Cs := Cs) (i := i) (j := j) (C := C) (fun x hx => hl x (by simp [hx])) (by simpa using hi) hj
    rw [List.flatten_cons, List.getElem?_append_right (by rw [Nat.add_mul]; omega), ← this]
    congr 1
    rw [Nat.add_mul]; omega
theorem flat_length {n : Nat} : ∀ {Cs : List (List Value)}, (∀ D ∈ Cs, D.length = n) → Cs.flatten.length = Cs.length * n
  | [], _ => by simp
  | D :: Cs, hl => by
    have h1 := hl D (by simp)
    have := flat_length (n := n) (Cs := Cs) (fun x hx => hl x (by simp [hx]))
    rw [List.flatten_cons, List.length_append, this, List.length_cons, Nat.add_mul]; omega

theorem Blk.new3 (w : World) (o o2 : Obj) (t : TypeId) (cs : Array Value) : Blk (((w.alloc o).alloc o2).alloc (.cells cs t)) (w.heap.size + 1 + 1) t cs := by simpa using Blk.new ((w.alloc o).alloc o2) t cs
theorem reads_blk {w : World} {g : Nat} {t : TypeId} {size n : Nat} {cs : List Value} (hb : Blk w g t cs.toArray) (hl : cs.length = n * size) : Reads w w.heap.size size (some ⟨g, 0, none⟩) n cs :=
  ⟨hl, fun _ => ⟨g, 0, rfl, hb.lt, fun j u hu => by rw [Nat.zero_add, hb.cell]; simpa using hu⟩⟩
/-- The cells of a row of the call's own. -/
theorem own_cells {w : World} {base : Nat} {e : TypeId} {size n c : Nat} {A : Option Addr} {xs : List Value} (h : w.ownsRow base e size (.slice A n c) n xs) : RF w (fun b => (Value.slice A n c).ownBlock = some b) size A n xs := by
  refine ⟨h.1, fun hn => ?_⟩
  obtain ⟨g, cap, hv, _, hlt⟩ := h.form hn
  have hA : A = some ⟨g, 0, none⟩ := by injection hv
  subst hA
  exact ⟨g, 0, rfl, rfl, fun j u hu => by have := h.cells (g := g) rfl j u hu; rwa [Addr.add_lit] at this⟩
theorem own_cap {w : World} {base : Nat} {e : TypeId} {size n c : Nat} {A : Option Addr} {xs : List Value} (h : w.ownsRow base e size (.slice A n c) n xs) : n ≤ c := by
  rcases h.2 with ⟨hv, h0⟩ | ⟨g, cap, cur, hv, _, _, hnc, _⟩
  · omega
  · have : c = cap := by injection hv
    omega

/-- append onto a row of the call's own, at one operation of a region that draws. -/
theorem step_append_any {P : Program} {ops : Array Oper} {w : World} {o : Oper} {a : Act} {K : Act → World → Prop} {Q : Exit → Act → World → Prop} {E : Prop} (hgd : o.guard = none) (s x : Operand) (t : TypeId)
    (ho : o.op = .call { callee := .builtin .append, args := #[s, x], argTypes := #[t, t] })
    (base : Nat) (e : TypeId) (i : TypeInfo) (z : Value) (size bytes : Nat) (ht : P.underlying t = some (.slice e)) (hi : P.info? e = some i) (hz : i.zero = some z)
    (hsize : i.size = size) (hby : i.bytes = bytes) (hzs : z.cells.size = size) (hsz : 0 < size)
    (v : Value) (n : Nat) (xs : List Value) (hs : a.eval s = v) (hown : w.ownsRow base e size v n xs)
    (B : Nat) (A : Option Addr) (m c : Nat) (news : List Value) (hx : a.eval x = .slice A m c) (hr : Reads w B size A m news) (h1 : ∀ u ∈ news, u.oneCell' = true)
    (h63 : n + m ≤ maxLen) (hbytes : (n + m) * bytes ≤ 140737488355328) (hbase : base ≤ w.heap.size)
    (h : ∀ A' c' w', w'.ownsRow base e size (.slice A' (n + m) c') (n + m) (xs ++ news) → w.grownBy w' v.ownBlock → ((Value.slice A' (n + m) c').ownBlock = v.ownBlock ∨ (Value.slice A' (n + m) c').ownBlock = some w.heap.size) → K (a.put o.dst (.slice A' (n + m) c')) w') :
    if Region.wanted o (yielded ops a.tmps) = true then Oper.wp P o a w K Q else E := by
  have hw : Region.wanted o (yielded ops a.tmps) = true := by simp [Region.wanted, hgd]
  rw [if_pos hw]
  obtain ⟨A', c', w', hrun, h2, h3, h4⟩ := run_append_any (P := P) w base t o.type e i z size bytes ht hi hz hsize hby hzs hsz v n xs hown B A m c news hr h1 h63 hbytes hbase
  unfold Oper.wp execOp
  simp only [ho, resolve, invoke, builtin, Sem.run_bind, Sem.run_pure, Result.andThen_ok, List.map_toArray, List.map_cons, List.map_nil, hs, hx, hrun]
  exact h A' c' w' h2 h3 h4

/-- Where the parts of a value that is being built may lie. -/
def VF (B g : Nat) (N P : Value) (w : World) (b : Nat) : Prop := B ≤ b ∧ b < w.heap.size ∧ N.ownBlock ≠ some b ∧ P.ownBlock ≠ some b ∧ b ≠ g

/-- A value that is being built in variable g. -/
structure VB (w : World) (B g : Nat) (kd n : Int) (s : Str) (names : List Str) (parts : List DVal) (An Ap : Option Addr) (cn cp : Nat) : Prop where
  blk : Blk w g 31 #[.int .i64 kd, .int .i64 n, sv s, .slice An names.length cn, .slice none 0 0, .slice Ap parts.length cp]
  nm : w.ownsRow B 9 1 (.slice An names.length cn) names.length (names.map sv)
  ng : (Value.slice An names.length cn).ownBlock ≠ some g
  pg : (Value.slice Ap parts.length cp).ownBlock ≠ some g
  pn : ∀ b, (Value.slice An names.length cn).ownBlock = some b → (Value.slice Ap parts.length cp).ownBlock ≠ some b
  Bg : B ≤ g
  pt : ∃ Cs : List (List Value), Cs.length = parts.length ∧ (∀ C ∈ Cs, C.length = 6) ∧ (∀ C ∈ Cs, ∀ v ∈ C, v.oneCell' = true) ∧ w.ownsRow B 31 6 (.slice Ap parts.length cp) parts.length Cs.flatten ∧
    ∀ (i : Nat) (p : DVal), parts[i]? = some p → ∃ C, Cs[i]? = some C ∧ IsVal w (VF B g (.slice An names.length cn) (.slice Ap parts.length cp) w) p C

section
variable {w w' : World} {B g : Nat} {kd n : Int} {s : Str} {names : List Str} {parts : List DVal} {An Ap : Option Addr} {cn cp : Nat}
/-- What lay there is as it was: so is the value. -/
theorem VB.keep (h : VB w B g kd n s names parts An Ap cn cp) (hf : Below w.heap.size w w') : VB w' B g kd n s names parts An Ap cn cp := by
  obtain ⟨Cs, h1, h2, h3, h4, h5⟩ := h.pt
  refine ⟨h.blk.below hf h.blk.lt, own_below' h.nm hf, h.ng, h.pg, h.pn, h.Bg, Cs, h1, h2, h3, own_below' h4 hf, fun i p hp => ?_⟩
  obtain ⟨C, hC, hv⟩ := h5 i p hp
  exact ⟨C, hC, (hv.keep fun q hq => hf.cell hq.2.1).mono fun b hb => ⟨hb.1, Nat.lt_of_lt_of_le hb.2.1 hf.size, hb.2.2⟩⟩
/-- What changed lies before its memory: so is the value. -/
theorem VB.keepF {F : Nat → Prop} (h : VB w B g kd n s names parts An Ap cn cp) (hf : Fr F w w') (hF : ∀ b, F b → b < B) : VB w' B g kd n s names parts An Ap cn cp := by
  obtain ⟨Cs, h1, h2, h3, h4, h5⟩ := h.pt
  have hBg := h.Bg
  refine ⟨h.blk.fr hf (fun e => by have := hF _ e; omega), own_fr h.nm hf (fun k hk e => by have := (h.nm.lt k hk).1; have := hF k e; omega), h.ng, h.pg, h.pn, h.Bg, Cs, h1, h2, h3, own_fr h4 hf (fun k hk e => by have := (h4.lt k hk).1; have := hF k e; omega), fun i p hp => ?_⟩
  obtain ⟨C, hC, hv⟩ := h5 i p hp
  exact ⟨C, hC, (hv.keep fun q hq => World.cell?_of_block (hf.block q.block hq.2.1 (fun e => by have := hF _ e; have := hq.1; omega))).mono fun b hb => ⟨hb.1, Nat.lt_of_lt_of_le hb.2.1 hf.size, hb.2.2⟩⟩
/-- The new variable, nothing in it yet. -/
theorem VB.start {W : World} (hB : B ≤ W.heap.size) (hb : Blk W g 31 #[.int .i64 kd, .int .i64 n, sv s, .slice none 0 0, .slice none 0 0, .slice none 0 0]) (hg : B ≤ g) : VB W B g kd n s [] [] none none 0 0 :=
  ⟨hb, World.ownsRow_nil _ _ _ _, by simp [Value.ownBlock], by simp [Value.ownBlock], fun b h => by simp [Value.ownBlock] at h, hg, [], rfl, fun _ h => (by cases h), fun _ h => (by cases h), World.ownsRow_nil _ _ _ _, fun i p hp => by simp at hp⟩
/-- A name more: the row has been appended to, and laid back. -/
theorem VB.name {A' : Option Addr} {c' : Nat} {x : Str} (h : VB w B g kd n s names parts An Ap cn cp) (hown : w'.ownsRow B 9 1 (.slice A' (names.length + 1) c') (names.length + 1) ((names ++ [x]).map sv)) (hgr : w.grownBy w' (Value.slice An names.length cn).ownBlock)
    (hlie : (Value.slice A' (names.length + 1) c').ownBlock = (Value.slice An names.length cn).ownBlock ∨ (Value.slice A' (names.length + 1) c').ownBlock = some w.heap.size) :
    VB (w'.setCell ⟨g, 3, none⟩ (.slice A' (names.length + 1) c')) B g kd n s (names ++ [x]) parts A' Ap c' cp := by
  obtain ⟨Cs, h1, h2, h3, h4, h5⟩ := h.pt
  have hgl := h.blk.lt
  have hA'g : (Value.slice A' (names.length + 1) c').ownBlock ≠ some g := by
    rcases hlie with e | e <;> rw [e]
    · exact h.ng
    · intro e; injection e with e; omega
  have hpA' : ∀ b, (Value.slice A' (names.length + 1) c').ownBlock = some b → (Value.slice Ap parts.length cp).ownBlock ≠ some b := by
    intro b hb
    rcases hlie with e | e
    · exact h.pn b (e ▸ hb)
    · intro hp
      have hlt := (h4.lt b hp).2
      rw [e] at hb
      injection hb with hb
      omega
  have hlen : (names ++ [x]).length = names.length + 1 := by simp
  have hblk := (h.blk.grown hgr (fun e => h.ng e.symm)).set_ 3 (.slice A' (names.length + 1) c')
  have hF : Fr (fun k => k = g) w' (w'.setCell ⟨g, 3, none⟩ (.slice A' (names.length + 1) c')) := (Fr.refl (fun k => k = g) w').setCell (p := ⟨g, 3, none⟩) (.inl rfl) _
  refine ⟨by rw [hlen]; simpa using hblk, ?_, by rw [hlen]; exact hA'g, h.pg, by rw [hlen]; exact hpA', h.Bg, Cs, h1, h2, h3, ?_, fun i p hp => ?_⟩
  · rw [hlen]
    exact own_fr hown hF (fun k hk e => hA'g (by rw [← e]; exact hk))
  · have h40 : w'.ownsRow B 31 6 (.slice Ap parts.length cp) parts.length Cs.flatten := h4.kept hgr (by
      rcases hob : (Value.slice Ap parts.length cp).ownBlock with _ | b
      · exact .inl rfl
      · exact .inr fun e => h.pn b e.symm hob)
    exact own_fr h40 hF (fun k hk e => h.pg (by rw [← e]; exact hk))
  · obtain ⟨C, hC, hv⟩ := h5 i p hp
    refine ⟨C, hC, (hv.keep fun q hq => ?_).mono fun b hb => ⟨hb.1, ?_, ?_, hb.2.2.2.1, hb.2.2.2.2⟩⟩
    · have e1 : (w'.setCell ⟨g, 3, none⟩ (.slice A' (names.length + 1) c')).cell? q = w'.cell? q := World.cell?_of_block (hF.block q.block (Nat.lt_of_lt_of_le hq.2.1 hgr.size) (fun e => hq.2.2.2.2 e))
      rw [e1]
      exact World.cell?_of_block (hgr.block q.block hq.2.1 (fun e => hq.2.2.1 e.symm))
    · simp only [World.setCell, Array.size_modify]
      exact Nat.lt_of_lt_of_le hb.2.1 hgr.size
    · rw [hlen]
      rcases hlie with e | e <;> rw [e]
      · exact hb.2.2.1
      · intro e; injection e with e; have := hb.2.1; omega
/-- A part more: the row has been appended to, and laid back. The part's own memory lies in blocks that are neither row. -/
theorem VB.part {A' : Option Addr} {c' : Nat} {x : DVal} {C : List Value} {Cs : List (List Value)} (h : VB w B g kd n s names parts An Ap cn cp) (h1 : Cs.length = parts.length) (h2 : ∀ D ∈ Cs, D.length = 6) (h3 : ∀ D ∈ Cs, ∀ v ∈ D, v.oneCell' = true)
    (h5 : ∀ (i : Nat) (p : DVal), parts[i]? = some p → ∃ D, Cs[i]? = some D ∧ IsVal w (VF B g (.slice An names.length cn) (.slice Ap parts.length cp) w) p D)
    (hx : IsVal w (VF B g (.slice An names.length cn) (.slice Ap parts.length cp) w) x C)
    (hown : w'.ownsRow B 31 6 (.slice A' (parts.length + 1) c') (parts.length + 1) (Cs.flatten ++ C)) (hgr : w.grownBy w' (Value.slice Ap parts.length cp).ownBlock)
    (hlie : (Value.slice A' (parts.length + 1) c').ownBlock = (Value.slice Ap parts.length cp).ownBlock ∨ (Value.slice A' (parts.length + 1) c').ownBlock = some w.heap.size) :
    VB (w'.setCell ⟨g, 5, none⟩ (.slice A' (parts.length + 1) c')) B g kd n s names (parts ++ [x]) An A' cn c' := by
  have hgl := h.blk.lt
  have hA'g : (Value.slice A' (parts.length + 1) c').ownBlock ≠ some g := by
    rcases hlie with e | e <;> rw [e]
    · exact h.pg
    · intro e; injection e with e; omega
  have hnA' : ∀ b, (Value.slice An names.length cn).ownBlock = some b → (Value.slice A' (parts.length + 1) c').ownBlock ≠ some b := by
    intro b hb
    rcases hlie with e | e <;> rw [e]
    · exact h.pn b hb
    · intro hp
      have hlt := (h.nm.lt b hb).2
      injection hp with hp
      omega
  have hlen : (parts ++ [x]).length = parts.length + 1 := by simp
  have hblk := (h.blk.grown hgr (fun e => h.pg e.symm)).set_ 5 (.slice A' (parts.length + 1) c')
  have hF : Fr (fun k => k = g) w' (w'.setCell ⟨g, 5, none⟩ (.slice A' (parts.length + 1) c')) := (Fr.refl (fun k => k = g) w').setCell (p := ⟨g, 5, none⟩) (.inl rfl) _
  have keepV : ∀ (p : DVal) (D : List Value), IsVal w (VF B g (.slice An names.length cn) (.slice Ap parts.length cp) w) p D → IsVal (w'.setCell ⟨g, 5, none⟩ (.slice A' (parts.length + 1) c')) (VF B g (.slice An names.length cn) (.slice A' (parts.length + 1) c') (w'.setCell ⟨g, 5, none⟩ (.slice A' (parts.length + 1) c'))) p D := by
    intro p D hv
    refine (hv.keep fun q hq => ?_).mono fun b hb => ⟨hb.1, ?_, hb.2.2.1, ?_, hb.2.2.2.2⟩
    · have e1 : (w'.setCell ⟨g, 5, none⟩ (.slice A' (parts.length + 1) c')).cell? q = w'.cell? q := World.cell?_of_block (hF.block q.block (Nat.lt_of_lt_of_le hq.2.1 hgr.size) (fun e => hq.2.2.2.2 e))
      rw [e1]
      exact World.cell?_of_block (hgr.block q.block hq.2.1 (fun e => hq.2.2.2.1 e.symm))
    · simp only [World.setCell, Array.size_modify]
      exact Nat.lt_of_lt_of_le hb.2.1 hgr.size
    · rcases hlie with e | e <;> rw [e]
      · exact hb.2.2.2.1
      · intro e; injection e with e; have := hb.2.1; omega
  refine ⟨by rw [hlen]; simpa using hblk, ?_, h.ng, by rw [hlen]; exact hA'g, by rw [hlen]; exact hnA', h.Bg, Cs ++ [C], by simp [h1], ?_, ?_, ?_, fun i p hp => ?_⟩
  · have h40 := h.nm.kept hgr (by
      rcases hob : (Value.slice An names.length cn).ownBlock with _ | b
      · exact .inl rfl
      · exact .inr fun e => h.pn b hob e.symm)
    exact own_fr h40 hF (fun k hk e => h.ng (by rw [← e]; exact hk))
  · intro D hD
    rcases List.mem_append.1 hD with hD | hD
    · exact h2 D hD
    · rw [List.mem_singleton.1 hD]; exact hx.length
  · intro D hD
    rcases List.mem_append.1 hD with hD | hD
    · exact h3 D hD
    · rw [List.mem_singleton.1 hD]; exact hx.one
  · rw [hlen, List.flatten_append]
    simp only [List.flatten_cons, List.flatten_nil, List.append_nil]
    exact own_fr hown hF (fun k hk e => hA'g (by rw [← e]; exact hk))
  · rw [hlen]
    by_cases hi : i < parts.length
    · rw [List.getElem?_append_left hi] at hp
      obtain ⟨D, hD, hv⟩ := h5 i p hp
      exact ⟨D, by rw [List.getElem?_append_left (by omega)]; exact hD, keepV p D hv⟩
    · have hil : i = parts.length := by
        have := (List.getElem?_eq_some_iff.1 hp).1
        simp at this; omega
      subst hil
      rw [List.getElem?_append_right (Nat.le_refl _)] at hp
      simp at hp
      subst hp
      exact ⟨C, by rw [← h1, List.getElem?_append_right (Nat.le_refl _)]; simp, keepV _ _ hx⟩
/-- What has been built is a value, in memory of the call's own. -/
theorem VB.done (h : VB w B g kd n s names parts An Ap cn cp) (hk : I64 kd) (hn : I64 n) (hs : s.length ≤ maxLen) (hns : ∀ x ∈ names, x.length ≤ maxLen) (hcn : names.length ≤ 140737488351232) (hcp : parts.length ≤ 140737488351232) :
    IsVal w (fun b => B ≤ b ∧ b < w.heap.size) (.mk kd n s names [] parts) [.int .i64 kd, .int .i64 n, sv s, .slice An names.length cn, .slice none 0 0, .slice Ap parts.length cp] := by
  obtain ⟨Cs, h1, h2, h3, h4, h5⟩ := h.pt
  have hrn := own_cells h.nm
  have hrp := own_cells h4
  rcases Nat.eq_zero_or_pos parts.length with h0 | h0
  · have hp0 : parts = [] := List.eq_nil_of_length_eq_zero h0
    subst hp0
    exact .mk (b := 0) (o := 0) (C := fun _ => []) hk hn hs (hrn.mono fun b hb => (h.nm.lt b hb)) hns (own_cap h.nm) hcn RF.nil (fun _ h => by cases h) (Nat.le_refl _) (Nat.zero_le _) (fun h => absurd h (by simp)) (fun i p hp => by simp at hp) (fun i p hp => by simp at hp) (own_cap h4) hcp
  · obtain ⟨b, o, hA, hFb, hc⟩ := hrp.2 h0
    have hFb' := h4.lt b hFb
    refine .mk (b := b) (o := o) (C := fun i => Cs.getD i []) hk hn hs (hrn.mono fun b hb => (h.nm.lt b hb)) hns (own_cap h.nm) hcn RF.nil (fun _ h => by cases h) (Nat.le_refl _) (Nat.zero_le _) (fun _ => ⟨hA, hFb'⟩) (fun i p hp => ?_) (fun i p hp => ?_) (own_cap h4) hcp
    · obtain ⟨C, hC, hv⟩ := h5 i p hp
      rw [show Cs.getD i [] = C by simp [List.getD, hC]]
      refine ⟨hv.length, fun j v hj => ?_⟩
      have hj6 : j < 6 := by rw [← hv.length]; exact (List.getElem?_eq_some_iff.1 hj).1
      have := flat_get h2 hC hj6
      rw [Nat.add_assoc]
      exact hc (i * 6 + j) v (this.trans hj)
    · obtain ⟨C, hC, hv⟩ := h5 i p hp
      rw [show Cs.getD i [] = C by simp [List.getD, hC]]
      exact hv.mono fun b hb => ⟨hb.1, hb.2.1⟩
theorem VB.name' {m : Nat} {A' : Option Addr} {c' : Nat} {x : Str} (h : VB w B g kd n s names parts An Ap cn cp) (hm : names.length = m) (hown : w'.ownsRow B 9 1 (.slice A' (m + 1) c') (m + 1) (names.map sv ++ [sv x])) (hgr : w.grownBy w' (Value.slice An m cn).ownBlock)
    (hlie : (Value.slice A' (m + 1) c').ownBlock = (Value.slice An m cn).ownBlock ∨ (Value.slice A' (m + 1) c').ownBlock = some w.heap.size) :
    VB (w'.setCell ⟨g, 3, none⟩ (.slice A' (m + 1) c')) B g kd n s (names ++ [x]) parts A' Ap c' cp := by
  subst hm
  exact h.name (by rw [List.map_append]; exact hown) hgr hlie
theorem VB.part' {m : Nat} {A' : Option Addr} {c' : Nat} {x : DVal} {C : List Value} {Cs : List (List Value)} (h : VB w B g kd n s names parts An Ap cn cp) (hm : parts.length = m) (h1 : Cs.length = parts.length) (h2 : ∀ D ∈ Cs, D.length = 6) (h3 : ∀ D ∈ Cs, ∀ v ∈ D, v.oneCell' = true)
    (h5 : ∀ (i : Nat) (p : DVal), parts[i]? = some p → ∃ D, Cs[i]? = some D ∧ IsVal w (VF B g (.slice An names.length cn) (.slice Ap parts.length cp) w) p D)
    (hx : IsVal w (VF B g (.slice An names.length cn) (.slice Ap parts.length cp) w) x C)
    (hown : w'.ownsRow B 31 6 (.slice A' (m + 1) c') (m + 1) (Cs.flatten ++ C)) (hgr : w.grownBy w' (Value.slice Ap m cp).ownBlock)
    (hlie : (Value.slice A' (m + 1) c').ownBlock = (Value.slice Ap m cp).ownBlock ∨ (Value.slice A' (m + 1) c').ownBlock = some w.heap.size) :
    VB (w'.setCell ⟨g, 5, none⟩ (.slice A' (m + 1) c')) B g kd n s names (parts ++ [x]) An A' cn c' := by
  subst hm
  exact h.part h1 h2 h3 h5 hx hown hgr hlie
end
end Go.Proofs.Ytpnjkebjdclkfaa
