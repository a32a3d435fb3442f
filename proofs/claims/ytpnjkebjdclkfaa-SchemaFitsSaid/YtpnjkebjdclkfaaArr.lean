/- Arrays of bytes as values: loads, stores, equality. Conditions: none. -/
import Derived.Test.YtpnjkebjdclkfaaMem
import Derived.Deep.MidRow
import Derived.DeepKeys
namespace Go.Proofs.Ytpnjkebjdclkfaa
open Go.RowKit

/-- The cells of an array of bytes. -/
abbrev FB (f : List UInt8) : Array Value := (f.map bv).toArray

theorem mapM_some_of {α β : Type} (f : α → Option β) (g : α → β) : ∀ l : List α, (∀ a ∈ l, f a = some (g a)) → l.mapM f = some (l.map g)
  | [], _ => rfl
  | a :: l, h => by
    rw [List.mapM_cons, h a (by simp), mapM_some_of f g l fun x hx => h x (by simp [hx])]
    rfl
theorem flatten_single {α : Type} (l : List α) : (l.map fun a => [a]).flatten = l := by
  induction l with
  | nil => rfl
  | cons a l ih => simp [ih]
section
variable {P : Program}
theorem keyLits_bytes (d n : Nat) (t e : TypeId) (ht : P.underlying t = some (.array n e)) (he : P.underlying e = some (.int .u8)) (hc : P.cellsOf t = n) (hce : P.cellsOf e = 1) (f : List UInt8) (hf : f.length = n) :
    P.keyLits (d + 2) t (f.map bv) = some (f.map fun b => Lit.int .u8 b.toNat) := by
  have hone : ∀ i, i < n → P.keyLits (d + 1) e (((f.map bv).drop (i * P.cellsOf e)).take (P.cellsOf e)) = some [Lit.int .u8 ((f.getD i 0).toNat : Int)] := by
    intro i hi
    rw [hce, Nat.mul_one]
    have hi' : i < (f.map bv).length := by simp; omega
    rw [List.drop_eq_getElem_cons hi', List.take_succ_cons, List.take_zero, List.getElem_map]
    unfold Program.keyLits
    rw [he]
    have hlt := UInt8.toNat_lt f[i]
    have hg : f.getD i 0 = f[i] := by simp [List.getD, hf, hi]
    rw [hg]
    simp only [true_and]
    rw [if_pos]
    simp only [Lit.wf, Bool.and_eq_true, decide_eq_true_eq, show IntKind.u8.min = 0 from rfl, show IntKind.u8.max = 255 from rfl]
    omega
  unfold Program.keyLits
  rw [ht]
  simp only [List.length_map, hf, hc, if_true]
  rw [mapM_some_of _ (fun i => [Lit.int .u8 ((f.getD i 0).toNat : Int)]) (List.range n) fun i hi => hone i (List.mem_range.1 hi)]
  simp only [Option.map_some, Option.some.injEq]
  have : (List.range n).map (fun i => [Lit.int .u8 ((f.getD i 0).toNat : Int)]) = (f.map fun b => Lit.int .u8 b.toNat).map fun a => [a] := by
    apply List.ext_getElem
    · simp [hf]
    · intro i h1 h2
      simp at h1 h2
      simp [List.getD, h2]
  rw [this, flatten_single]
theorem lits_inj {f g : List UInt8} (h : (f.map fun b => Lit.int .u8 b.toNat) = g.map fun b => Lit.int .u8 b.toNat) : f = g := by
  induction f generalizing g with
  | nil => cases g with
    | nil => rfl
    | cons => simp at h
  | cons a f ih => cases g with
    | nil => simp at h
    | cons b g =>
      simp only [List.map_cons, List.cons.injEq, Lit.int.injEq, true_and] at h
      have h1 : a.toNat = b.toNat := by have := h.1; omega
      rw [UInt8.toNat_inj.1 h1, ih h.2]
/-- Whether two arrays of bytes are one. -/
theorem run_equal_bytes (w : World) (n : Nat) (t e : TypeId) (ht : P.underlying t = some (.array n e)) (he : P.underlying e = some (.int .u8)) (hc : P.cellsOf t = n) (hce : P.cellsOf e = 1) (hk : P.keyTypeAt 2 t = true) (f g : List UInt8) (hf : f.length = n) (hg : g.length = n) :
    (Op.equal t (.agg (FB f)) (.agg (FB g))).run P w = .ok (decide (f = g)) w := by
  have form : ∀ f : List UInt8, f.length = n → (Value.agg (FB f)).formed P t = true := by
    intro f hf
    simp [Value.formed, ht, hc, hf]
  obtain ⟨r, hr, hiff⟩ := run_equalIn_deep (P := P) 9998 2 t hk w 2 2 (.agg (FB f)) (.agg (FB g)) _ _ (form f hf) (form g hg) (by simpa [Value.cells] using keyLits_bytes 0 n t e ht he hc hce f hf) (by simpa [Value.cells] using keyLits_bytes 0 n t e ht he hc hce g hg)
  have : r = decide (f = g) := by
    rw [Bool.eq_iff_iff, hiff, decide_eq_true_eq]
    exact ⟨fun h => lits_inj h, fun h => by rw [h]⟩
  subst this
  exact hr
theorem run_eql_bytes (w : World) (n : Nat) (t e : TypeId) (ht : P.underlying t = some (.array n e)) (he : P.underlying e = some (.int .u8)) (hc : P.cellsOf t = n) (hce : P.cellsOf e = 1) (hk : P.keyTypeAt 2 t = true) (f g : List UInt8) (hf : f.length = n) (hg : g.length = n) :
    (binOp .eql t (.agg (FB f)) (.agg (FB g))).run P w = .ok (.bool (decide (f = g))) w := by
  simp only [binOp]
  simp [run_equal_bytes w n t e ht he hc hce hk f g hf hg]
theorem run_neq_bytes (w : World) (n : Nat) (t e : TypeId) (ht : P.underlying t = some (.array n e)) (he : P.underlying e = some (.int .u8)) (hc : P.cellsOf t = n) (hce : P.cellsOf e = 1) (hk : P.keyTypeAt 2 t = true) (f g : List UInt8) (hf : f.length = n) (hg : g.length = n) :
    (binOp .neq t (.agg (FB f)) (.agg (FB g))).run P w = .ok (.bool (!decide (f = g))) w := by
  simp only [binOp]
  simp [run_equal_bytes w n t e ht he hc hce hk f g hf hg]
end

theorem blk_setCells (g : Nat) (t : TypeId) : ∀ (vs : List Value) (o : Nat) (w : World) (L : List Value), Blk w g t L.toArray → o + vs.length ≤ L.length → Blk (w.setCells g o vs) g t (L.take o ++ vs ++ L.drop (o + vs.length)).toArray := by
  intro vs
  induction vs with
  | nil => intro o w L h ho; simpa [World.setCells] using h
  | cons v vs ih =>
    intro o w L h ho
    simp only [List.length_cons] at ho
    have h1 := h.set_ o v
    simp only [List.setIfInBounds_toArray] at h1
    have := ih (o + 1) (w.setCell ⟨g, o, none⟩ v) (L.set o v) h1 (by simp; omega)
    have e : (L.set o v).take (o + 1) ++ vs ++ (L.set o v).drop (o + 1 + vs.length) = L.take o ++ v :: vs ++ L.drop (o + (vs.length + 1)) := by
      rw [List.drop_set_of_lt (by omega), List.take_succ_eq_append_getElem (by simp; omega), List.take_set_of_le (Nat.le_refl _)]
      simp [Nat.add_assoc, Nat.add_comm 1]
    rw [e] at this
    simpa [World.setCells] using this
theorem fr_setCells (g : Nat) : ∀ (vs : List Value) (o : Nat) (w : World), Fr (fun k => k = g) w (w.setCells g o vs) := by
  intro vs
  induction vs with
  | nil => intro o w; exact Fr.refl _ _
  | cons v vs ih =>
    intro o w
    exact ((Fr.refl (fun k => k = g) w).setCell (p := ⟨g, o, none⟩) (.inl rfl) v).trans ((ih (o + 1) (w.setCell ⟨g, o, none⟩ v)).mono fun _ _ h => .inl h)
section
variable {P : Program} {ops : Array Oper} {rest : List Oper} {o : Oper} {a : Act} {w : World} {Q : Exit → Act → World → Prop}
/-- A whole block stored. -/
theorem wpList_store_blk (hgd : o.guard = none) (ty : TypeId) (x y : Operand) (ho : o.op = .store ty x y) (g : Nat) (hx : a.eval x = .pointer (some ⟨g, 0, none⟩)) (cs : Array Value) (hy : a.eval y = .agg cs)
    (t : TypeId) (cs0 : Array Value) (hb : Blk w g t cs0) (hsz : cs0.size = cs.size) (hi : (P.info? ty).map (·.size) = some cs.size) (h1 : ∀ v ∈ cs.toList, v.oneCell' = true)
    (h : ∀ w', Blk w' g t cs → Fr (fun k => k = g) w w' → wpList P ops Q rest (a.put o.dst undef) w') : wpList P ops Q (o :: rest) a w := by
  refine wpList_store_mid hgd ty x y ho g 0 cs hx hy (fun j hj => ⟨?_, hb.frozen _⟩) hi (Array.all_eq_true_iff_forall_mem.2 fun v hv => h1 v (by simpa using hv)) (h _ ?_ (fr_setCells g _ _ _))
  · rw [hb.cell, Array.getElem?_eq_getElem (by omega)]; rfl
  · have := blk_setCells g t cs.toList 0 w cs0.toList (by simpa using hb) (by simp; omega)
    have e : cs0.toList.take 0 ++ cs.toList ++ cs0.toList.drop (0 + cs.toList.length) = cs.toList := by
      rw [List.drop_eq_nil_of_le (by simp; omega)]
      simp
    rw [e] at this
    simpa using this
/-- A whole block loaded. -/
theorem wpList_load_blk (hgd : o.guard = none) (ty : TypeId) (x : Operand) (ho : o.op = .load ty x) (g : Nat) (hx : a.eval x = .pointer (some ⟨g, 0, none⟩)) (t : TypeId) (cs : Array Value) (hb : Blk w g t cs) (d : TypeDesc)
    (hu : P.underlying ty = some d) (hd : (match d with | .struct _ | .array _ _ => true | _ => false) = true) (hi : (P.info? ty).map (·.size) = some cs.size) (h : wpList P ops Q rest (a.put o.dst (.agg cs)) w) : wpList P ops Q (o :: rest) a w :=
  wpList_load_row hgd ty x ho g hx t cs (0, 0) d hb hu hd hi h
end
theorem fb_info {P : Program} {t : TypeId} {n : Nat} {f : List UInt8} (h : (P.info? t).map (·.size) = some n) (hf : f.length = n) : (P.info? t).map (·.size) = some (FB f).size := by
  rw [h]; simp [FB, hf]
theorem fb_one (f : List UInt8) : ∀ v ∈ (FB f).toList, v.oneCell' = true := by
  intro v hv
  simp only [FB, List.mem_map] at hv
  obtain ⟨x, -, rfl⟩ := hv
  rfl
theorem run_index_plain {P : Program} {t e : TypeId} {n : Nat} (hu : P.underlying t = some (.array n e)) (he : P.plainKey e = true) (hs : (P.info? e).map (·.size) = some 1) {cs : Array Value} {i : Nat} {v : Value} (hi : i < n) (hx : cs[i]? = some v) (w : World) :
    (Instr.index t (.agg cs) (.int .i64 (i : Int))).run P w = .ok v w := by
  obtain ⟨inf, h1, h2⟩ := Option.map_eq_some_iff.1 hs
  have h0 : (0 : Int) ≤ (i : Int) := Int.natCast_nonneg _
  simp [Instr.index, asIntOf, run_underlying hu, sizeOf, typeInfo, h1, h2, hi, run_part_plain w he hx]
theorem foldl_zip : ∀ (vs : List Value) (n : Nat) (Z : List Value), n + vs.length ≤ Z.length →
    List.foldl (fun (cs : Array Value) (x : Value × Nat) => cs.setIfInBounds x.2 x.1) Z.toArray (vs.zipIdx n) = (Z.take n ++ vs ++ Z.drop (n + vs.length)).toArray := by
  intro vs
  induction vs with
  | nil => intro n Z h; simp
  | cons v vs ih =>
    intro n Z h
    simp only [List.length_cons] at h
    rw [List.zipIdx_cons, List.foldl_cons]
    simp only [List.setIfInBounds_toArray]
    rw [ih (n + 1) (Z.set n v) (by simp; omega)]
    congr 1
    rw [List.take_set, List.drop_set]
    have e1 : (Z.take (n + 1)).set n v = Z.take n ++ [v] := by
      rw [List.take_succ_eq_append_getElem (by omega), List.set_append_right _ _ (by simp; omega)]
      simp [Nat.min_eq_left (show n ≤ Z.length by omega)]
    rw [e1, if_pos (by omega), show n + 1 + vs.length = n + (v :: vs).length from by simp; omega]
    simp
theorem foldl_zip_all (vs : List Value) (Z : Array Value) (h : Z.size = vs.length) :
    List.foldl (fun (cs : Array Value) (x : Value × Nat) => cs.setIfInBounds x.2 x.1) Z vs.zipIdx = vs.toArray := by
  have := foldl_zip vs 0 Z.toList (by simp [h])
  have e : Z.toList.drop vs.length = [] := List.drop_eq_nil_of_le (by simp [h])
  simpa [e] using this
theorem Blk.range {w : World} {g : Nat} {t : TypeId} {f : List UInt8} (h : Blk w g t (FB f)) : w.rangeAt g 0 (f.map bv) := fun j v hv => by
  rw [show 0 + j = j from Nat.zero_add j, h.cell]
  simpa [FB] using hv
/-- The load of a whole array by a guarded operation that is wanted. -/
theorem wpList_load_blkg {P : Program} {ops : Array Oper} {rest : List Oper} {o : Oper} {a : Act} {w : World} {Q : Exit → Act → World → Prop} (hw : Region.wanted o (yielded ops a.tmps) = true)
    (ty : TypeId) (x : Operand) (ho : o.op = .load ty x) (g : Nat) (hx : a.eval x = .pointer (some ⟨g, 0, none⟩)) (t : TypeId) (f : List UInt8) (hb : Blk w g t (FB f)) (d : TypeDesc)
    (hu : P.underlying ty = some d) (hd : d.isRow = true) (hi : (P.info? ty).map (·.size) = some (FB f).size) (h : wpList P ops Q rest (a.put o.dst (.agg (FB f))) w) : wpList P ops Q (o :: rest) a w :=
  wpList_step fun K hK => by
    simp only [hw, if_true]
    exact wp_load_mid ty x ho g 0 hx (f.map bv) d hb.range hu hd (by rw [hi]; simp [FB]) (hK _ _ h)
/-- The store of a whole block, at one operation. -/
theorem wp_store_blk {P : Program} {o : Oper} {a : Act} {w : World} {K : Act → World → Prop} {Q : Exit → Act → World → Prop} (ty : TypeId) (x y : Operand) (ho : o.op = .store ty x y) (g : Nat) (hx : a.eval x = .pointer (some ⟨g, 0, none⟩)) (f : List UInt8) (hy : a.eval y = .agg (FB f))
    (t : TypeId) (cs0 : Array Value) (hb : Blk w g t cs0) (hsz : cs0.size = (FB f).size) (hi : (P.info? ty).map (·.size) = some (FB f).size)
    (h : ∀ w', Blk w' g t (FB f) → Fr (fun k => k = g) w w' → K (a.put o.dst undef) w') : o.wp P a w K Q := by
  refine wp_store_mid ty x y ho g 0 (FB f) hx hy (fun j hj => ⟨?_, hb.frozen _⟩) hi (Array.all_eq_true_iff_forall_mem.2 fun v hv => fb_one f v (by simpa using hv)) (h _ ?_ (fr_setCells g _ _ _))
  · rw [hb.cell, Array.getElem?_eq_getElem (by omega)]; rfl
  · have := blk_setCells g t (FB f).toList 0 w cs0.toList (by simpa using hb) (by rw [Array.length_toList, Array.length_toList]; omega)
    have e : cs0.toList.take 0 ++ (FB f).toList ++ cs0.toList.drop (0 + (FB f).toList.length) = (FB f).toList := by
      rw [List.drop_eq_nil_of_le (by rw [Array.length_toList, Array.length_toList]; omega)]
      simp
    rw [e] at this
    simpa using this
theorem fb_size (f : List UInt8) : (FB f).size = f.length := by simp [FB]
end Go.Proofs.Ytpnjkebjdclkfaa
