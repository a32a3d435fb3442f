/- Texts of a proof, part 3. Conditions: none. -/
import Derived.Test.YtonncfminojejaaMA2
set_option linter.unusedVariables false
set_option linter.unusedSimpArgs false
namespace Go.Proofs.Ytonncfminojejaa
open Go.RowKit

theorem put_eq (f : Fm) (t : Tmp) (d : D) : put f (some t) d t = d := by simp [put]
theorem put_ne (f : Fm) (t : Tmp) (d : D) (i : Nat) (h : (i == t) = false) : put f (some t) d i = f i := by
  have : Nat.beq i t = false := by
    cases hb : Nat.beq i t with
    | false => rfl
    | true => rw [Nat.eq_of_beq_eq_true hb] at h; simp at h
  simp [put, this]
theorem put_none (f : Fm) (d : D) : put f none d = f := Eq.trans (Eq.refl _) (Eq.refl _)
theorem argF_nil (t : Nat) : argF [] t = undefD := Eq.trans (Eq.refl _) (Eq.refl _)
theorem argF_zero (d : D) (l : List D) : argF (d :: l) 0 = d := Eq.trans (Eq.refl _) (Eq.refl _)
theorem argF_succ (d : D) (l : List D) (t : Nat) : argF (d :: l) (t + 1) = argF l t := Eq.trans (Eq.refl _) (Eq.refl _)
section
variable {P : Program} {x y : Operand} {t : TypeId}
theorem pureRun_bind {α β : Type} (s : Sem α) (g : α → Sem β) : pureRun P (s >>= g) = (pureRun P s).bind fun a => pureRun P (g a) := by
  show pureRun P (Sem.bind s g) = _
  induction s with
  | pure a => rfl
  | program k ih => simp only [Sem.bind, pureRun]; exact ih _
  | mark m k ih => simp only [Sem.bind, pureRun]; exact ih
  | _ => rfl
theorem pureRun_pure {α : Type} (a : α) : pureRun P (pure a : Sem α) = some a := Eq.trans (Eq.refl _) (Eq.refl _)
theorem ofV_int (k : IntKind) (n : Int) : ofV (.int k n) = .v (.int k n) := Eq.trans (Eq.refl _) (Eq.refl _)
theorem ofV_bool (b : Bool) : ofV (.bool b) = .v (.bool b) := Eq.trans (Eq.refl _) (Eq.refl _)
theorem ofV_string (s : ByteArray) : ofV (.string s) = .v (.string s) := Eq.trans (Eq.refl _) (Eq.refl _)
theorem ofV_nil : ofV (.slice none 0 0) = .sl .full [] := Eq.trans (Eq.refl _) (Eq.refl _)
theorem ofV_iface : ofV .nilIface = .v .nilIface := Eq.trans (Eq.refl _) (Eq.refl _)
theorem ofV_func : ofV .nilFunc = .v .nilFunc := Eq.trans (Eq.refl _) (Eq.refl _)
theorem ofV_ptr (a : Option Addr) : ofV (.pointer a) = .v (.pointer a) := Eq.trans (Eq.refl _) (Eq.refl _)
/-! Operations on plain values. -/
theorem bin_add (k : IntKind) (a b : Int) : dbin P .add t x y (.v (.int k a)) (.v (.int k b)) = some (True, .v (.int k (k.wrap (a + b)))) := by
  simp [dbin, eqGuard, binOp, Op.intArith, pureRun_bind, pureRun_pure]
theorem bin_sub (k : IntKind) (a b : Int) : dbin P .sub t x y (.v (.int k a)) (.v (.int k b)) = some (True, .v (.int k (k.wrap (a - b)))) := by
  simp [dbin, eqGuard, binOp, Op.intArith, pureRun_bind, pureRun_pure]
theorem bin_mul (k : IntKind) (a b : Int) : dbin P .mul t x y (.v (.int k a)) (.v (.int k b)) = some (True, .v (.int k (k.wrap (a * b)))) := by
  simp [dbin, eqGuard, binOp, Op.intArith, pureRun_bind, pureRun_pure]
theorem bin_eql (k : IntKind) (a b : Int) : dbin P .eql t x y (.v (.int k a)) (.v (.int k b)) = some (True, .v (.bool (a == b))) := by
  simp [dbin, eqGuard, binOp, Op.intCmp, pureRun_bind, pureRun_pure]
theorem bin_neq (k : IntKind) (a b : Int) : dbin P .neq t x y (.v (.int k a)) (.v (.int k b)) = some (True, .v (.bool (a != b))) := by
  simp [dbin, eqGuard, binOp, Op.intCmp, pureRun_bind, pureRun_pure]
theorem bin_lss (k : IntKind) (a b : Int) : dbin P .lss t x y (.v (.int k a)) (.v (.int k b)) = some (True, .v (.bool (decide (a < b)))) := by
  simp [dbin, eqGuard, binOp, Op.intCmp, pureRun_bind, pureRun_pure]
theorem bin_leq (k : IntKind) (a b : Int) : dbin P .leq t x y (.v (.int k a)) (.v (.int k b)) = some (True, .v (.bool (decide (a ≤ b)))) := by
  simp [dbin, eqGuard, binOp, Op.intCmp, pureRun_bind, pureRun_pure]
theorem bin_gtr (k : IntKind) (a b : Int) : dbin P .gtr t x y (.v (.int k a)) (.v (.int k b)) = some (True, .v (.bool (decide (b < a)))) := by
  simp [dbin, eqGuard, binOp, Op.intCmp, pureRun_bind, pureRun_pure]
theorem bin_geq (k : IntKind) (a b : Int) : dbin P .geq t x y (.v (.int k a)) (.v (.int k b)) = some (True, .v (.bool (decide (b ≤ a)))) := by
  simp [dbin, eqGuard, binOp, Op.intCmp, pureRun_bind, pureRun_pure]
theorem bin_leql (k off : Nat) : dbin P .eql t x y (.loc k off) (.v (.pointer none)) = some (ptrT P t = true, .v (.bool false)) := Eq.trans (Eq.refl _) (Eq.refl _)
theorem bin_lneq (k off : Nat) : dbin P .neq t x y (.loc k off) (.v (.pointer none)) = some (ptrT P t = true, .v (.bool true)) := Eq.trans (Eq.refl _) (Eq.refl _)
theorem bin_ieql (u : TypeId) (d : D) : dbin P .eql t x y (.ifc u d) (.v .nilIface) = some (ifaceT P t = true, .v (.bool false)) := Eq.trans (Eq.refl _) (Eq.refl _)
theorem bin_ineq (u : TypeId) (d : D) : dbin P .neq t x y (.ifc u d) (.v .nilIface) = some (ifaceT P t = true, .v (.bool true)) := Eq.trans (Eq.refl _) (Eq.refl _)
theorem bin_slnil (own : Own) (es : List D) : dbin P .eql t x (.const (.slice none 0 0)) (.sl own es) (.sl .full []) = some ((elT P t).isSome = true ∧ 0 < es.length, .v (.bool false)) := Eq.trans (Eq.refl _) (Eq.refl _)
theorem bin_winnil (k off n c : Nat) : dbin P .eql t x (.const (.slice none 0 0)) (.win k off n c) (.sl .full []) = some ((elT P t).isSome = true ∧ 0 < n, .v (.bool false)) := Eq.trans (Eq.refl _) (Eq.refl _)
theorem bin_ifc (t1 t2 : TypeId) (a b : D) : dbin P .eql t x y (.ifc t1 a) (.ifc t2 b) = some (IfcEq P t x y t1 a t2 b, .v (.bool (ifcB t1 a t2 b))) := Eq.trans (Eq.refl _) (Eq.refl _)
theorem bin_seql (a b : ByteArray) : dbin P .eql t x y (.v (.string a)) (.v (.string b)) = some (True, .v (.bool (a.toList == b.toList))) := by
  simp [dbin, eqGuard, binOp, Op.stringOp, pureRun_bind, pureRun_pure]
theorem bin_sneq (a b : ByteArray) : dbin P .neq t x y (.v (.string a)) (.v (.string b)) = some (True, .v (.bool (!(a.toList == b.toList)))) := by
  simp [dbin, eqGuard, binOp, Op.stringOp, pureRun_bind, pureRun_pure]
theorem bin_slss (a b : ByteArray) : dbin P .lss t x y (.v (.string a)) (.v (.string b)) = some (True, .v (.bool (Op.bytesLess a.toList b.toList))) := by
  simp [dbin, eqGuard, binOp, Op.stringOp, pureRun_bind, pureRun_pure]
theorem bin_sgtr (a b : ByteArray) : dbin P .gtr t x y (.v (.string a)) (.v (.string b)) = some (True, .v (.bool (!(Op.bytesLess a.toList b.toList || a.toList == b.toList)))) := by
  simp [dbin, eqGuard, binOp, Op.stringOp, pureRun_bind, pureRun_pure]
theorem bin_sleq (a b : ByteArray) : dbin P .leq t x y (.v (.string a)) (.v (.string b)) = some (True, .v (.bool (Op.bytesLess a.toList b.toList || a.toList == b.toList))) := by
  simp [dbin, eqGuard, binOp, Op.stringOp, pureRun_bind, pureRun_pure]
theorem bin_sgeq (a b : ByteArray) : dbin P .geq t x y (.v (.string a)) (.v (.string b)) = some (True, .v (.bool (!Op.bytesLess a.toList b.toList))) := by
  simp [dbin, eqGuard, binOp, Op.stringOp, pureRun_bind, pureRun_pure]
theorem un_not (b : Bool) : pureRun P (Op.unary .not (.bool b)) = some (.bool (!b)) := Eq.trans (Eq.refl _) (Eq.refl _)
theorem un_neg (k : IntKind) (n : Int) : pureRun P (Op.unary .neg (.int k n)) = some (.int k (k.wrap (0 - n))) := Eq.trans (Eq.refl _) (Eq.refl _)
theorem bu_len (own : Own) (es : List D) (t ty : TypeId) (cs : Array Bool) {e : TypeId} (h : elT P t = some e) : dbuiltin P .len #[t] ty cs [.sl own es] = some (True, .v (.int .i64 es.length)) := by
  simp [dbuiltin, vals, dlen, h]
theorem bu_wlen (k off n c : Nat) (t ty : TypeId) (cs : Array Bool) {e : TypeId} (h : elT P t = some e) : dbuiltin P .len #[t] ty cs [.win k off n c] = some (True, .v (.int .i64 n)) := by
  simp [dbuiltin, vals, dlen, h]
theorem bu_max (k : IntKind) (a b : Int) (ts : Array TypeId) (ty : TypeId) (cs : Array Bool) : dbuiltin P .max ts ty cs [.v (.int k a), .v (.int k b)] = some (True, .v (.int k (if a < b then b else a))) := by
  simp [dbuiltin, vals, builtin, Builtin.max_, Builtin.max2, pureRun_bind, pureRun_pure]
theorem bu_min (k : IntKind) (a b : Int) (ts : Array TypeId) (ty : TypeId) (cs : Array Bool) : dbuiltin P .min ts ty cs [.v (.int k a), .v (.int k b)] = some (True, .v (.int k (if b < a then b else a))) := by
  simp [dbuiltin, vals, builtin, Builtin.min_, Builtin.min2, pureRun_bind, pureRun_pure]
end

/-! The walk, step by step; what follows stands behind a name till it is come to. -/
section
variable {P : Program} {Q : DQ} {f : Fm} {S : St}
def dwpF (P : Program) (c : Code) (Q : DQ) (f : Fm) (S : St) : Prop := dwp P c Q f S
def dIf (c : D) (x y : Prop) : Prop := match c with
  | .v (.bool b) => (b = true → x) ∧ (b = false → y)
  | _ => False
theorem dwp_skip : dwp P .skip Q f S = Q .normal f S := Eq.trans (Eq.refl _) (Eq.refl _)
theorem dwp_label (l : Nat) : dwp P (.label l) Q f S = Q .normal f S := Eq.trans (Eq.refl _) (Eq.refl _)
theorem dwp_exit (i : Nat) : dwp P (.exit i) Q f S = Q (.exit i) f S := Eq.trans (Eq.refl _) (Eq.refl _)
theorem dwp_ret : dwp P .ret Q f S = Q .ret f S := Eq.trans (Eq.refl _) (Eq.refl _)
theorem dwp_seq (x y : Code) : dwp P (.seq x y) Q f S = dwp P x (DQ.then (dwp P y Q) Q) f S := Eq.trans (Eq.refl _) (Eq.refl _)
theorem dwp_block (id : Nat) (c : Code) : dwp P (.block id c) Q f S = dwp P c (DQ.block id Q) f S := Eq.trans (Eq.refl _) (Eq.refl _)
theorem dwp_loop (c : Code) : dwp P (.loop c) Q f S = DLoop (dwp P c) Q f S := Eq.trans (Eq.refl _) (Eq.refl _)
theorem dwp_cond (c : Operand) (x y : Code) : dwp P (.cond c x y) Q f S = dIf (ev f c) (dwpF P x Q f S) (dwpF P y Q f S) := by
  unfold dwp dIf dwpF
  rfl
theorem dwp_region (id : Nat) (l : List Oper) : dwp P (.region id (List.toArray l) false) Q f S = dops P (List.toArray l) (Q .normal) l f S := Eq.trans (Eq.refl _) (Eq.refl _)
theorem dwp_draw (id : Nat) (l : List Oper) : dwp P (.region id (List.toArray l) true) Q f S = ddraw P l (Q .normal) f S := Eq.trans (Eq.refl _) (Eq.refl _)
theorem then_normal (k : Fm → St → Prop) : DQ.then k Q .normal f S = k f S := Eq.trans (Eq.refl _) (Eq.refl _)
theorem then_exit (k : Fm → St → Prop) (i : Nat) : DQ.then k Q (.exit i) f S = Q (.exit i) f S := Eq.trans (Eq.refl _) (Eq.refl _)
theorem then_ret (k : Fm → St → Prop) : DQ.then k Q .ret f S = Q .ret f S := Eq.trans (Eq.refl _) (Eq.refl _)
theorem block_normal (id : Nat) : DQ.block id Q .normal f S = Q .normal f S := Eq.trans (Eq.refl _) (Eq.refl _)
theorem block_ret (id : Nat) : DQ.block id Q .ret f S = Q .ret f S := Eq.trans (Eq.refl _) (Eq.refl _)
theorem block_eq (id : Nat) : DQ.block id Q (.exit id) f S = Q .normal f S := by simp [DQ.block]
theorem block_ne (i id : Nat) (h : (i == id) = false) : DQ.block id Q (.exit i) f S = Q (.exit i) f S := by
  have : Nat.beq i id = false := by
    cases hb : Nat.beq i id with
    | false => rfl
    | true => rw [Nat.eq_of_beq_eq_true hb] at h; simp at h
  simp [DQ.block, this]
def dnext (P : Program) (ops : Array Oper) (R : Fm → St → Prop) (r : List Oper) (f : Fm) (dst : Option Tmp) (d : D) (S : St) : Prop := dops P ops R r (put f dst d) S
theorem dnext_eq (ops : Array Oper) (R : Fm → St → Prop) (r : List Oper) (dst : Option Tmp) (d : D) : dnext P ops R r f dst d S = dops P ops R r (put f dst d) S := Eq.trans (Eq.refl _) (Eq.refl _)
def dskip (P : Program) (ops : Array Oper) (R : Fm → St → Prop) (r : List Oper) (f : Fm) (dst : Option Tmp) (S : St) : Prop := dops P ops R r (put f dst undefD) S
def dopF (P : Program) (f : Fm) (S : St) (ty : TypeId) (op : Op) (K : D → St → Prop) : Prop := dop P f S ty op K
def gtmp : List Oper → Nat → Option Tmp
  | [], _ => none
  | o :: _, 0 => o.dst
  | _ :: l, n + 1 => gtmp l n
theorem gtmp_eq : ∀ (l : List Oper) (n : Nat), ((List.toArray l)[n]?).bind (·.dst) = gtmp l n
  | [], n => by simp [gtmp]
  | o :: l, 0 => by simp [gtmp]
  | o :: l, n + 1 => by have := gtmp_eq l n; simpa [gtmp] using this
theorem gtmp_zero (dst : Option Tmp) (op : Op) (ty : TypeId) (pos : String) (after : Array Edge) (g : Option (Nat × Bool)) (l : List Oper) : gtmp (⟨dst, op, ty, pos, after, g⟩ :: l) 0 = dst := Eq.trans (Eq.refl _) (Eq.refl _)
theorem gtmp_succ (o : Oper) (l : List Oper) (n : Nat) : gtmp (o :: l) (n + 1) = gtmp l n := Eq.trans (Eq.refl _) (Eq.refl _)
def dguardT (t : Option Tmp) (f : Fm) (want : Bool) (y n : Prop) : Prop := match t with
  | some t => match f t with
    | .v (.bool b) => (b = want → y) ∧ (b = !want → n)
    | .tup [] => n
    | _ => False
  | none => False
def dguard (x : D) (want : Bool) (y n : Prop) : Prop := match x with
  | .v (.bool b) => (b = want → y) ∧ (b = !want → n)
  | .tup [] => n
  | _ => False
theorem dguardT_some (t : Tmp) (want : Bool) (y n : Prop) : dguardT (some t) f want y n = dguard (f t) want y n := Eq.trans (Eq.refl _) (Eq.refl _)
section
variable {y n : Prop} {ty : TypeId} {op : Op} {K : D → St → Prop} {ops : Array Oper} {R : Fm → St → Prop} {r : List Oper} {dst : Option Tmp}
theorem dg_tt : dguard (.v (.bool true)) true (dopF P f S ty op K) n = dop P f S ty op K := by simp [dguard, dopF]
theorem dg_ff : dguard (.v (.bool false)) false (dopF P f S ty op K) n = dop P f S ty op K := by simp [dguard, dopF]
theorem dg_tf : dguard (.v (.bool true)) false y (dskip P ops R r f dst S) = dops P ops R r (put f dst undefD) S := by simp [dguard, dskip]
theorem dg_ft : dguard (.v (.bool false)) true y (dskip P ops R r f dst S) = dops P ops R r (put f dst undefD) S := by simp [dguard, dskip]
theorem dg_no (want : Bool) : dguard undefD want y (dskip P ops R r f dst S) = dops P ops R r (put f dst undefD) S := Eq.trans (Eq.refl _) (Eq.refl _)
end
theorem dIf_t (x : Code) (Y : Prop) : dIf (.v (.bool true)) (dwpF P x Q f S) Y = dwp P x Q f S := by simp [dIf, dwpF]
theorem dIf_f (y : Code) (X : Prop) : dIf (.v (.bool false)) X (dwpF P y Q f S) = dwp P y Q f S := by simp [dIf, dwpF]
theorem dIf_both {b : Bool} {x y : Code} (h1 : b = true → dwp P x Q f S) (h2 : b = false → dwp P y Q f S) : dIf (.v (.bool b)) (dwpF P x Q f S) (dwpF P y Q f S) := ⟨h1, h2⟩
theorem dops_nil (ops : Array Oper) (R : Fm → St → Prop) : dops P ops R [] f S = R f S := Eq.trans (Eq.refl _) (Eq.refl _)
theorem dops_p_move (ops : Array Oper) (R : Fm → St → Prop) (r : List Oper) (dst : Option Tmp) (ty : TypeId) (pos : String) (after : Array Edge) (x : Operand) : dops P ops R (⟨dst, .move x, ty, pos, after, none⟩ :: r) f S = dop P f S ty (.move x) (dnext P ops R r f dst) := (dops_cons ..).trans (Eq.refl _)
theorem dops_g_move (l : List Oper) (R : Fm → St → Prop) (r : List Oper) (dst : Option Tmp) (ty : TypeId) (pos : String) (after : Array Edge) (j : Nat) (want : Bool) (x : Operand) : dops P (List.toArray l) R (⟨dst, .move x, ty, pos, after, some (j, want)⟩ :: r) f S = dguardT (gtmp l j) f want (dopF P f S ty (.move x) (dnext P (List.toArray l) R r f dst)) (dskip P (List.toArray l) R r f dst S) := by
  rw [← gtmp_eq, dops_cons]; rfl
theorem dops_pb_move (ops : Array Oper) (R : Fm → St → Prop) (r : List Oper) (dst : Option Tmp) (ty : TypeId) (pos : String) (after : Array Edge) (t0 : TypeId) (n0 : Nat) (ps0 : Array (Nat × Operand)) (dst2 : Option Tmp) (ty2 : TypeId) (pos2 : String) (after2 : Array Edge) (g2 : Option (Nat × Bool)) (x : Operand) : dops P ops R (⟨dst, .buildSlice t0 n0 ps0, ty, pos, after, none⟩ :: ⟨dst2, .move x, ty2, pos2, after2, g2⟩ :: r) f S = dop P f S ty (.buildSlice t0 n0 ps0) (dnext P ops R (⟨dst2, .move x, ty2, pos2, after2, g2⟩ :: r) f dst) := (dops_cons ..).trans (Eq.refl _)
theorem dops_gb_move (l : List Oper) (R : Fm → St → Prop) (r : List Oper) (dst : Option Tmp) (ty : TypeId) (pos : String) (after : Array Edge) (j : Nat) (want : Bool) (t0 : TypeId) (n0 : Nat) (ps0 : Array (Nat × Operand)) (dst2 : Option Tmp) (ty2 : TypeId) (pos2 : String) (after2 : Array Edge) (g2 : Option (Nat × Bool)) (x : Operand) : dops P (List.toArray l) R (⟨dst, .buildSlice t0 n0 ps0, ty, pos, after, some (j, want)⟩ :: ⟨dst2, .move x, ty2, pos2, after2, g2⟩ :: r) f S = dguardT (gtmp l j) f want (dopF P f S ty (.buildSlice t0 n0 ps0) (dnext P (List.toArray l) R (⟨dst2, .move x, ty2, pos2, after2, g2⟩ :: r) f dst)) (dskip P (List.toArray l) R (⟨dst2, .move x, ty2, pos2, after2, g2⟩ :: r) f dst S) := by
  rw [← gtmp_eq, dops_cons]; rfl
theorem dops_p_assign (ops : Array Oper) (R : Fm → St → Prop) (r : List Oper) (dst : Option Tmp) (ty : TypeId) (pos : String) (after : Array Edge) (x : Operand) : dops P ops R (⟨dst, .assign x, ty, pos, after, none⟩ :: r) f S = dop P f S ty (.assign x) (dnext P ops R r f dst) := (dops_cons ..).trans (Eq.refl _)
theorem dops_g_assign (l : List Oper) (R : Fm → St → Prop) (r : List Oper) (dst : Option Tmp) (ty : TypeId) (pos : String) (after : Array Edge) (j : Nat) (want : Bool) (x : Operand) : dops P (List.toArray l) R (⟨dst, .assign x, ty, pos, after, some (j, want)⟩ :: r) f S = dguardT (gtmp l j) f want (dopF P f S ty (.assign x) (dnext P (List.toArray l) R r f dst)) (dskip P (List.toArray l) R r f dst S) := by
  rw [← gtmp_eq, dops_cons]; rfl
theorem dops_pb_assign (ops : Array Oper) (R : Fm → St → Prop) (r : List Oper) (dst : Option Tmp) (ty : TypeId) (pos : String) (after : Array Edge) (t0 : TypeId) (n0 : Nat) (ps0 : Array (Nat × Operand)) (dst2 : Option Tmp) (ty2 : TypeId) (pos2 : String) (after2 : Array Edge) (g2 : Option (Nat × Bool)) (x : Operand) : dops P ops R (⟨dst, .buildSlice t0 n0 ps0, ty, pos, after, none⟩ :: ⟨dst2, .assign x, ty2, pos2, after2, g2⟩ :: r) f S = dop P f S ty (.buildSlice t0 n0 ps0) (dnext P ops R (⟨dst2, .assign x, ty2, pos2, after2, g2⟩ :: r) f dst) := (dops_cons ..).trans (Eq.refl _)
theorem dops_gb_assign (l : List Oper) (R : Fm → St → Prop) (r : List Oper) (dst : Option Tmp) (ty : TypeId) (pos : String) (after : Array Edge) (j : Nat) (want : Bool) (t0 : TypeId) (n0 : Nat) (ps0 : Array (Nat × Operand)) (dst2 : Option Tmp) (ty2 : TypeId) (pos2 : String) (after2 : Array Edge) (g2 : Option (Nat × Bool)) (x : Operand) : dops P (List.toArray l) R (⟨dst, .buildSlice t0 n0 ps0, ty, pos, after, some (j, want)⟩ :: ⟨dst2, .assign x, ty2, pos2, after2, g2⟩ :: r) f S = dguardT (gtmp l j) f want (dopF P f S ty (.buildSlice t0 n0 ps0) (dnext P (List.toArray l) R (⟨dst2, .assign x, ty2, pos2, after2, g2⟩ :: r) f dst)) (dskip P (List.toArray l) R (⟨dst2, .assign x, ty2, pos2, after2, g2⟩ :: r) f dst S) := by
  rw [← gtmp_eq, dops_cons]; rfl
theorem dops_p_pick (ops : Array Oper) (R : Fm → St → Prop) (r : List Oper) (dst : Option Tmp) (ty : TypeId) (pos : String) (after : Array Edge) (c a b : Operand) : dops P ops R (⟨dst, .pick c a b, ty, pos, after, none⟩ :: r) f S = dop P f S ty (.pick c a b) (dnext P ops R r f dst) := (dops_cons ..).trans (Eq.refl _)
theorem dops_g_pick (l : List Oper) (R : Fm → St → Prop) (r : List Oper) (dst : Option Tmp) (ty : TypeId) (pos : String) (after : Array Edge) (j : Nat) (want : Bool) (c a b : Operand) : dops P (List.toArray l) R (⟨dst, .pick c a b, ty, pos, after, some (j, want)⟩ :: r) f S = dguardT (gtmp l j) f want (dopF P f S ty (.pick c a b) (dnext P (List.toArray l) R r f dst)) (dskip P (List.toArray l) R r f dst S) := by
  rw [← gtmp_eq, dops_cons]; rfl
theorem dops_pb_pick (ops : Array Oper) (R : Fm → St → Prop) (r : List Oper) (dst : Option Tmp) (ty : TypeId) (pos : String) (after : Array Edge) (t0 : TypeId) (n0 : Nat) (ps0 : Array (Nat × Operand)) (dst2 : Option Tmp) (ty2 : TypeId) (pos2 : String) (after2 : Array Edge) (g2 : Option (Nat × Bool)) (c a b : Operand) : dops P ops R (⟨dst, .buildSlice t0 n0 ps0, ty, pos, after, none⟩ :: ⟨dst2, .pick c a b, ty2, pos2, after2, g2⟩ :: r) f S = dop P f S ty (.buildSlice t0 n0 ps0) (dnext P ops R (⟨dst2, .pick c a b, ty2, pos2, after2, g2⟩ :: r) f dst) := (dops_cons ..).trans (Eq.refl _)
theorem dops_gb_pick (l : List Oper) (R : Fm → St → Prop) (r : List Oper) (dst : Option Tmp) (ty : TypeId) (pos : String) (after : Array Edge) (j : Nat) (want : Bool) (t0 : TypeId) (n0 : Nat) (ps0 : Array (Nat × Operand)) (dst2 : Option Tmp) (ty2 : TypeId) (pos2 : String) (after2 : Array Edge) (g2 : Option (Nat × Bool)) (c a b : Operand) : dops P (List.toArray l) R (⟨dst, .buildSlice t0 n0 ps0, ty, pos, after, some (j, want)⟩ :: ⟨dst2, .pick c a b, ty2, pos2, after2, g2⟩ :: r) f S = dguardT (gtmp l j) f want (dopF P f S ty (.buildSlice t0 n0 ps0) (dnext P (List.toArray l) R (⟨dst2, .pick c a b, ty2, pos2, after2, g2⟩ :: r) f dst)) (dskip P (List.toArray l) R (⟨dst2, .pick c a b, ty2, pos2, after2, g2⟩ :: r) f dst S) := by
  rw [← gtmp_eq, dops_cons]; rfl
theorem dops_p_alloc (ops : Array Oper) (R : Fm → St → Prop) (r : List Oper) (dst : Option Tmp) (ty : TypeId) (pos : String) (after : Array Edge) (elem : TypeId) : dops P ops R (⟨dst, .alloc elem, ty, pos, after, none⟩ :: r) f S = dop P f S ty (.alloc elem) (dnext P ops R r f dst) := (dops_cons ..).trans (Eq.refl _)
theorem dops_g_alloc (l : List Oper) (R : Fm → St → Prop) (r : List Oper) (dst : Option Tmp) (ty : TypeId) (pos : String) (after : Array Edge) (j : Nat) (want : Bool) (elem : TypeId) : dops P (List.toArray l) R (⟨dst, .alloc elem, ty, pos, after, some (j, want)⟩ :: r) f S = dguardT (gtmp l j) f want (dopF P f S ty (.alloc elem) (dnext P (List.toArray l) R r f dst)) (dskip P (List.toArray l) R r f dst S) := by
  rw [← gtmp_eq, dops_cons]; rfl
theorem dops_pb_alloc (ops : Array Oper) (R : Fm → St → Prop) (r : List Oper) (dst : Option Tmp) (ty : TypeId) (pos : String) (after : Array Edge) (t0 : TypeId) (n0 : Nat) (ps0 : Array (Nat × Operand)) (dst2 : Option Tmp) (ty2 : TypeId) (pos2 : String) (after2 : Array Edge) (g2 : Option (Nat × Bool)) (elem : TypeId) : dops P ops R (⟨dst, .buildSlice t0 n0 ps0, ty, pos, after, none⟩ :: ⟨dst2, .alloc elem, ty2, pos2, after2, g2⟩ :: r) f S = dop P f S ty (.buildSlice t0 n0 ps0) (dnext P ops R (⟨dst2, .alloc elem, ty2, pos2, after2, g2⟩ :: r) f dst) := (dops_cons ..).trans (Eq.refl _)
theorem dops_gb_alloc (l : List Oper) (R : Fm → St → Prop) (r : List Oper) (dst : Option Tmp) (ty : TypeId) (pos : String) (after : Array Edge) (j : Nat) (want : Bool) (t0 : TypeId) (n0 : Nat) (ps0 : Array (Nat × Operand)) (dst2 : Option Tmp) (ty2 : TypeId) (pos2 : String) (after2 : Array Edge) (g2 : Option (Nat × Bool)) (elem : TypeId) : dops P (List.toArray l) R (⟨dst, .buildSlice t0 n0 ps0, ty, pos, after, some (j, want)⟩ :: ⟨dst2, .alloc elem, ty2, pos2, after2, g2⟩ :: r) f S = dguardT (gtmp l j) f want (dopF P f S ty (.buildSlice t0 n0 ps0) (dnext P (List.toArray l) R (⟨dst2, .alloc elem, ty2, pos2, after2, g2⟩ :: r) f dst)) (dskip P (List.toArray l) R (⟨dst2, .alloc elem, ty2, pos2, after2, g2⟩ :: r) f dst S) := by
  rw [← gtmp_eq, dops_cons]; rfl
theorem dops_p_box (ops : Array Oper) (R : Fm → St → Prop) (r : List Oper) (dst : Option Tmp) (ty : TypeId) (pos : String) (after : Array Edge) (elem : TypeId) (v : Operand) : dops P ops R (⟨dst, .box elem v, ty, pos, after, none⟩ :: r) f S = dop P f S ty (.box elem v) (dnext P ops R r f dst) := (dops_cons ..).trans (Eq.refl _)
theorem dops_g_box (l : List Oper) (R : Fm → St → Prop) (r : List Oper) (dst : Option Tmp) (ty : TypeId) (pos : String) (after : Array Edge) (j : Nat) (want : Bool) (elem : TypeId) (v : Operand) : dops P (List.toArray l) R (⟨dst, .box elem v, ty, pos, after, some (j, want)⟩ :: r) f S = dguardT (gtmp l j) f want (dopF P f S ty (.box elem v) (dnext P (List.toArray l) R r f dst)) (dskip P (List.toArray l) R r f dst S) := by
  rw [← gtmp_eq, dops_cons]; rfl
theorem dops_pb_box (ops : Array Oper) (R : Fm → St → Prop) (r : List Oper) (dst : Option Tmp) (ty : TypeId) (pos : String) (after : Array Edge) (t0 : TypeId) (n0 : Nat) (ps0 : Array (Nat × Operand)) (dst2 : Option Tmp) (ty2 : TypeId) (pos2 : String) (after2 : Array Edge) (g2 : Option (Nat × Bool)) (elem : TypeId) (v : Operand) : dops P ops R (⟨dst, .buildSlice t0 n0 ps0, ty, pos, after, none⟩ :: ⟨dst2, .box elem v, ty2, pos2, after2, g2⟩ :: r) f S = dop P f S ty (.buildSlice t0 n0 ps0) (dnext P ops R (⟨dst2, .box elem v, ty2, pos2, after2, g2⟩ :: r) f dst) := (dops_cons ..).trans (Eq.refl _)
theorem dops_gb_box (l : List Oper) (R : Fm → St → Prop) (r : List Oper) (dst : Option Tmp) (ty : TypeId) (pos : String) (after : Array Edge) (j : Nat) (want : Bool) (t0 : TypeId) (n0 : Nat) (ps0 : Array (Nat × Operand)) (dst2 : Option Tmp) (ty2 : TypeId) (pos2 : String) (after2 : Array Edge) (g2 : Option (Nat × Bool)) (elem : TypeId) (v : Operand) : dops P (List.toArray l) R (⟨dst, .buildSlice t0 n0 ps0, ty, pos, after, some (j, want)⟩ :: ⟨dst2, .box elem v, ty2, pos2, after2, g2⟩ :: r) f S = dguardT (gtmp l j) f want (dopF P f S ty (.buildSlice t0 n0 ps0) (dnext P (List.toArray l) R (⟨dst2, .box elem v, ty2, pos2, after2, g2⟩ :: r) f dst)) (dskip P (List.toArray l) R (⟨dst2, .box elem v, ty2, pos2, after2, g2⟩ :: r) f dst S) := by
  rw [← gtmp_eq, dops_cons]; rfl
theorem dops_p_build (ops : Array Oper) (R : Fm → St → Prop) (r : List Oper) (dst : Option Tmp) (ty : TypeId) (pos : String) (after : Array Edge) (t : TypeId) (parts : Array (Nat × Operand)) : dops P ops R (⟨dst, .build t parts, ty, pos, after, none⟩ :: r) f S = dop P f S ty (.build t parts) (dnext P ops R r f dst) := (dops_cons ..).trans (Eq.refl _)
theorem dops_g_build (l : List Oper) (R : Fm → St → Prop) (r : List Oper) (dst : Option Tmp) (ty : TypeId) (pos : String) (after : Array Edge) (j : Nat) (want : Bool) (t : TypeId) (parts : Array (Nat × Operand)) : dops P (List.toArray l) R (⟨dst, .build t parts, ty, pos, after, some (j, want)⟩ :: r) f S = dguardT (gtmp l j) f want (dopF P f S ty (.build t parts) (dnext P (List.toArray l) R r f dst)) (dskip P (List.toArray l) R r f dst S) := by
  rw [← gtmp_eq, dops_cons]; rfl
theorem dops_pb_build (ops : Array Oper) (R : Fm → St → Prop) (r : List Oper) (dst : Option Tmp) (ty : TypeId) (pos : String) (after : Array Edge) (t0 : TypeId) (n0 : Nat) (ps0 : Array (Nat × Operand)) (dst2 : Option Tmp) (ty2 : TypeId) (pos2 : String) (after2 : Array Edge) (g2 : Option (Nat × Bool)) (t : TypeId) (parts : Array (Nat × Operand)) : dops P ops R (⟨dst, .buildSlice t0 n0 ps0, ty, pos, after, none⟩ :: ⟨dst2, .build t parts, ty2, pos2, after2, g2⟩ :: r) f S = dop P f S ty (.buildSlice t0 n0 ps0) (dnext P ops R (⟨dst2, .build t parts, ty2, pos2, after2, g2⟩ :: r) f dst) := (dops_cons ..).trans (Eq.refl _)
theorem dops_gb_build (l : List Oper) (R : Fm → St → Prop) (r : List Oper) (dst : Option Tmp) (ty : TypeId) (pos : String) (after : Array Edge) (j : Nat) (want : Bool) (t0 : TypeId) (n0 : Nat) (ps0 : Array (Nat × Operand)) (dst2 : Option Tmp) (ty2 : TypeId) (pos2 : String) (after2 : Array Edge) (g2 : Option (Nat × Bool)) (t : TypeId) (parts : Array (Nat × Operand)) : dops P (List.toArray l) R (⟨dst, .buildSlice t0 n0 ps0, ty, pos, after, some (j, want)⟩ :: ⟨dst2, .build t parts, ty2, pos2, after2, g2⟩ :: r) f S = dguardT (gtmp l j) f want (dopF P f S ty (.buildSlice t0 n0 ps0) (dnext P (List.toArray l) R (⟨dst2, .build t parts, ty2, pos2, after2, g2⟩ :: r) f dst)) (dskip P (List.toArray l) R (⟨dst2, .build t parts, ty2, pos2, after2, g2⟩ :: r) f dst S) := by
  rw [← gtmp_eq, dops_cons]; rfl
theorem dops_p_insert (ops : Array Oper) (R : Fm → St → Prop) (r : List Oper) (dst : Option Tmp) (ty : TypeId) (pos : String) (after : Array Edge) (mapType : TypeId) (map key value : Operand) : dops P ops R (⟨dst, .insert mapType map key value, ty, pos, after, none⟩ :: r) f S = dop P f S ty (.insert mapType map key value) (dnext P ops R r f dst) := (dops_cons ..).trans (Eq.refl _)
theorem dops_g_insert (l : List Oper) (R : Fm → St → Prop) (r : List Oper) (dst : Option Tmp) (ty : TypeId) (pos : String) (after : Array Edge) (j : Nat) (want : Bool) (mapType : TypeId) (map key value : Operand) : dops P (List.toArray l) R (⟨dst, .insert mapType map key value, ty, pos, after, some (j, want)⟩ :: r) f S = dguardT (gtmp l j) f want (dopF P f S ty (.insert mapType map key value) (dnext P (List.toArray l) R r f dst)) (dskip P (List.toArray l) R r f dst S) := by
  rw [← gtmp_eq, dops_cons]; rfl
theorem dops_pb_insert (ops : Array Oper) (R : Fm → St → Prop) (r : List Oper) (dst : Option Tmp) (ty : TypeId) (pos : String) (after : Array Edge) (t0 : TypeId) (n0 : Nat) (ps0 : Array (Nat × Operand)) (dst2 : Option Tmp) (ty2 : TypeId) (pos2 : String) (after2 : Array Edge) (g2 : Option (Nat × Bool)) (mapType : TypeId) (map key value : Operand) : dops P ops R (⟨dst, .buildSlice t0 n0 ps0, ty, pos, after, none⟩ :: ⟨dst2, .insert mapType map key value, ty2, pos2, after2, g2⟩ :: r) f S = dop P f S ty (.buildSlice t0 n0 ps0) (dnext P ops R (⟨dst2, .insert mapType map key value, ty2, pos2, after2, g2⟩ :: r) f dst) := (dops_cons ..).trans (Eq.refl _)
theorem dops_gb_insert (l : List Oper) (R : Fm → St → Prop) (r : List Oper) (dst : Option Tmp) (ty : TypeId) (pos : String) (after : Array Edge) (j : Nat) (want : Bool) (t0 : TypeId) (n0 : Nat) (ps0 : Array (Nat × Operand)) (dst2 : Option Tmp) (ty2 : TypeId) (pos2 : String) (after2 : Array Edge) (g2 : Option (Nat × Bool)) (mapType : TypeId) (map key value : Operand) : dops P (List.toArray l) R (⟨dst, .buildSlice t0 n0 ps0, ty, pos, after, some (j, want)⟩ :: ⟨dst2, .insert mapType map key value, ty2, pos2, after2, g2⟩ :: r) f S = dguardT (gtmp l j) f want (dopF P f S ty (.buildSlice t0 n0 ps0) (dnext P (List.toArray l) R (⟨dst2, .insert mapType map key value, ty2, pos2, after2, g2⟩ :: r) f dst)) (dskip P (List.toArray l) R (⟨dst2, .insert mapType map key value, ty2, pos2, after2, g2⟩ :: r) f dst S) := by
  rw [← gtmp_eq, dops_cons]; rfl
theorem dops_p_load (ops : Array Oper) (R : Fm → St → Prop) (r : List Oper) (dst : Option Tmp) (ty : TypeId) (pos : String) (after : Array Edge) (t : TypeId) (addr : Operand) : dops P ops R (⟨dst, .load t addr, ty, pos, after, none⟩ :: r) f S = dop P f S ty (.load t addr) (dnext P ops R r f dst) := (dops_cons ..).trans (Eq.refl _)
theorem dops_g_load (l : List Oper) (R : Fm → St → Prop) (r : List Oper) (dst : Option Tmp) (ty : TypeId) (pos : String) (after : Array Edge) (j : Nat) (want : Bool) (t : TypeId) (addr : Operand) : dops P (List.toArray l) R (⟨dst, .load t addr, ty, pos, after, some (j, want)⟩ :: r) f S = dguardT (gtmp l j) f want (dopF P f S ty (.load t addr) (dnext P (List.toArray l) R r f dst)) (dskip P (List.toArray l) R r f dst S) := by
  rw [← gtmp_eq, dops_cons]; rfl
theorem dops_pb_load (ops : Array Oper) (R : Fm → St → Prop) (r : List Oper) (dst : Option Tmp) (ty : TypeId) (pos : String) (after : Array Edge) (t0 : TypeId) (n0 : Nat) (ps0 : Array (Nat × Operand)) (dst2 : Option Tmp) (ty2 : TypeId) (pos2 : String) (after2 : Array Edge) (g2 : Option (Nat × Bool)) (t : TypeId) (addr : Operand) : dops P ops R (⟨dst, .buildSlice t0 n0 ps0, ty, pos, after, none⟩ :: ⟨dst2, .load t addr, ty2, pos2, after2, g2⟩ :: r) f S = dop P f S ty (.buildSlice t0 n0 ps0) (dnext P ops R (⟨dst2, .load t addr, ty2, pos2, after2, g2⟩ :: r) f dst) := (dops_cons ..).trans (Eq.refl _)
theorem dops_gb_load (l : List Oper) (R : Fm → St → Prop) (r : List Oper) (dst : Option Tmp) (ty : TypeId) (pos : String) (after : Array Edge) (j : Nat) (want : Bool) (t0 : TypeId) (n0 : Nat) (ps0 : Array (Nat × Operand)) (dst2 : Option Tmp) (ty2 : TypeId) (pos2 : String) (after2 : Array Edge) (g2 : Option (Nat × Bool)) (t : TypeId) (addr : Operand) : dops P (List.toArray l) R (⟨dst, .buildSlice t0 n0 ps0, ty, pos, after, some (j, want)⟩ :: ⟨dst2, .load t addr, ty2, pos2, after2, g2⟩ :: r) f S = dguardT (gtmp l j) f want (dopF P f S ty (.buildSlice t0 n0 ps0) (dnext P (List.toArray l) R (⟨dst2, .load t addr, ty2, pos2, after2, g2⟩ :: r) f dst)) (dskip P (List.toArray l) R (⟨dst2, .load t addr, ty2, pos2, after2, g2⟩ :: r) f dst S) := by
  rw [← gtmp_eq, dops_cons]; rfl
theorem dops_p_store (ops : Array Oper) (R : Fm → St → Prop) (r : List Oper) (dst : Option Tmp) (ty : TypeId) (pos : String) (after : Array Edge) (t : TypeId) (addr val : Operand) : dops P ops R (⟨dst, .store t addr val, ty, pos, after, none⟩ :: r) f S = dop P f S ty (.store t addr val) (dnext P ops R r f dst) := (dops_cons ..).trans (Eq.refl _)
theorem dops_g_store (l : List Oper) (R : Fm → St → Prop) (r : List Oper) (dst : Option Tmp) (ty : TypeId) (pos : String) (after : Array Edge) (j : Nat) (want : Bool) (t : TypeId) (addr val : Operand) : dops P (List.toArray l) R (⟨dst, .store t addr val, ty, pos, after, some (j, want)⟩ :: r) f S = dguardT (gtmp l j) f want (dopF P f S ty (.store t addr val) (dnext P (List.toArray l) R r f dst)) (dskip P (List.toArray l) R r f dst S) := by
  rw [← gtmp_eq, dops_cons]; rfl
theorem dops_pb_store (ops : Array Oper) (R : Fm → St → Prop) (r : List Oper) (dst : Option Tmp) (ty : TypeId) (pos : String) (after : Array Edge) (t0 : TypeId) (n0 : Nat) (ps0 : Array (Nat × Operand)) (dst2 : Option Tmp) (ty2 : TypeId) (pos2 : String) (after2 : Array Edge) (g2 : Option (Nat × Bool)) (t : TypeId) (addr val : Operand) : dops P ops R (⟨dst, .buildSlice t0 n0 ps0, ty, pos, after, none⟩ :: ⟨dst2, .store t addr val, ty2, pos2, after2, g2⟩ :: r) f S = dop P f S ty (.buildSlice t0 n0 ps0) (dnext P ops R (⟨dst2, .store t addr val, ty2, pos2, after2, g2⟩ :: r) f dst) := (dops_cons ..).trans (Eq.refl _)
theorem dops_gb_store (l : List Oper) (R : Fm → St → Prop) (r : List Oper) (dst : Option Tmp) (ty : TypeId) (pos : String) (after : Array Edge) (j : Nat) (want : Bool) (t0 : TypeId) (n0 : Nat) (ps0 : Array (Nat × Operand)) (dst2 : Option Tmp) (ty2 : TypeId) (pos2 : String) (after2 : Array Edge) (g2 : Option (Nat × Bool)) (t : TypeId) (addr val : Operand) : dops P (List.toArray l) R (⟨dst, .buildSlice t0 n0 ps0, ty, pos, after, some (j, want)⟩ :: ⟨dst2, .store t addr val, ty2, pos2, after2, g2⟩ :: r) f S = dguardT (gtmp l j) f want (dopF P f S ty (.buildSlice t0 n0 ps0) (dnext P (List.toArray l) R (⟨dst2, .store t addr val, ty2, pos2, after2, g2⟩ :: r) f dst)) (dskip P (List.toArray l) R (⟨dst2, .store t addr val, ty2, pos2, after2, g2⟩ :: r) f dst S) := by
  rw [← gtmp_eq, dops_cons]; rfl
theorem dops_p_ready (ops : Array Oper) (R : Fm → St → Prop) (r : List Oper) (dst : Option Tmp) (ty : TypeId) (pos : String) (after : Array Edge) (g : Nat) : dops P ops R (⟨dst, .ready g, ty, pos, after, none⟩ :: r) f S = dop P f S ty (.ready g) (dnext P ops R r f dst) := (dops_cons ..).trans (Eq.refl _)
theorem dops_g_ready (l : List Oper) (R : Fm → St → Prop) (r : List Oper) (dst : Option Tmp) (ty : TypeId) (pos : String) (after : Array Edge) (j : Nat) (want : Bool) (g : Nat) : dops P (List.toArray l) R (⟨dst, .ready g, ty, pos, after, some (j, want)⟩ :: r) f S = dguardT (gtmp l j) f want (dopF P f S ty (.ready g) (dnext P (List.toArray l) R r f dst)) (dskip P (List.toArray l) R r f dst S) := by
  rw [← gtmp_eq, dops_cons]; rfl
theorem dops_pb_ready (ops : Array Oper) (R : Fm → St → Prop) (r : List Oper) (dst : Option Tmp) (ty : TypeId) (pos : String) (after : Array Edge) (t0 : TypeId) (n0 : Nat) (ps0 : Array (Nat × Operand)) (dst2 : Option Tmp) (ty2 : TypeId) (pos2 : String) (after2 : Array Edge) (g2 : Option (Nat × Bool)) (g : Nat) : dops P ops R (⟨dst, .buildSlice t0 n0 ps0, ty, pos, after, none⟩ :: ⟨dst2, .ready g, ty2, pos2, after2, g2⟩ :: r) f S = dop P f S ty (.buildSlice t0 n0 ps0) (dnext P ops R (⟨dst2, .ready g, ty2, pos2, after2, g2⟩ :: r) f dst) := (dops_cons ..).trans (Eq.refl _)
theorem dops_gb_ready (l : List Oper) (R : Fm → St → Prop) (r : List Oper) (dst : Option Tmp) (ty : TypeId) (pos : String) (after : Array Edge) (j : Nat) (want : Bool) (t0 : TypeId) (n0 : Nat) (ps0 : Array (Nat × Operand)) (dst2 : Option Tmp) (ty2 : TypeId) (pos2 : String) (after2 : Array Edge) (g2 : Option (Nat × Bool)) (g : Nat) : dops P (List.toArray l) R (⟨dst, .buildSlice t0 n0 ps0, ty, pos, after, some (j, want)⟩ :: ⟨dst2, .ready g, ty2, pos2, after2, g2⟩ :: r) f S = dguardT (gtmp l j) f want (dopF P f S ty (.buildSlice t0 n0 ps0) (dnext P (List.toArray l) R (⟨dst2, .ready g, ty2, pos2, after2, g2⟩ :: r) f dst)) (dskip P (List.toArray l) R (⟨dst2, .ready g, ty2, pos2, after2, g2⟩ :: r) f dst S) := by
  rw [← gtmp_eq, dops_cons]; rfl
theorem dops_p_waits (ops : Array Oper) (R : Fm → St → Prop) (r : List Oper) (dst : Option Tmp) (ty : TypeId) (pos : String) (after : Array Edge) (g : Nat) : dops P ops R (⟨dst, .waits g, ty, pos, after, none⟩ :: r) f S = dop P f S ty (.waits g) (dnext P ops R r f dst) := (dops_cons ..).trans (Eq.refl _)
theorem dops_g_waits (l : List Oper) (R : Fm → St → Prop) (r : List Oper) (dst : Option Tmp) (ty : TypeId) (pos : String) (after : Array Edge) (j : Nat) (want : Bool) (g : Nat) : dops P (List.toArray l) R (⟨dst, .waits g, ty, pos, after, some (j, want)⟩ :: r) f S = dguardT (gtmp l j) f want (dopF P f S ty (.waits g) (dnext P (List.toArray l) R r f dst)) (dskip P (List.toArray l) R r f dst S) := by
  rw [← gtmp_eq, dops_cons]; rfl
theorem dops_pb_waits (ops : Array Oper) (R : Fm → St → Prop) (r : List Oper) (dst : Option Tmp) (ty : TypeId) (pos : String) (after : Array Edge) (t0 : TypeId) (n0 : Nat) (ps0 : Array (Nat × Operand)) (dst2 : Option Tmp) (ty2 : TypeId) (pos2 : String) (after2 : Array Edge) (g2 : Option (Nat × Bool)) (g : Nat) : dops P ops R (⟨dst, .buildSlice t0 n0 ps0, ty, pos, after, none⟩ :: ⟨dst2, .waits g, ty2, pos2, after2, g2⟩ :: r) f S = dop P f S ty (.buildSlice t0 n0 ps0) (dnext P ops R (⟨dst2, .waits g, ty2, pos2, after2, g2⟩ :: r) f dst) := (dops_cons ..).trans (Eq.refl _)
theorem dops_gb_waits (l : List Oper) (R : Fm → St → Prop) (r : List Oper) (dst : Option Tmp) (ty : TypeId) (pos : String) (after : Array Edge) (j : Nat) (want : Bool) (t0 : TypeId) (n0 : Nat) (ps0 : Array (Nat × Operand)) (dst2 : Option Tmp) (ty2 : TypeId) (pos2 : String) (after2 : Array Edge) (g2 : Option (Nat × Bool)) (g : Nat) : dops P (List.toArray l) R (⟨dst, .buildSlice t0 n0 ps0, ty, pos, after, some (j, want)⟩ :: ⟨dst2, .waits g, ty2, pos2, after2, g2⟩ :: r) f S = dguardT (gtmp l j) f want (dopF P f S ty (.buildSlice t0 n0 ps0) (dnext P (List.toArray l) R (⟨dst2, .waits g, ty2, pos2, after2, g2⟩ :: r) f dst)) (dskip P (List.toArray l) R (⟨dst2, .waits g, ty2, pos2, after2, g2⟩ :: r) f dst S) := by
  rw [← gtmp_eq, dops_cons]; rfl
theorem dops_p_nilCheck (ops : Array Oper) (R : Fm → St → Prop) (r : List Oper) (dst : Option Tmp) (ty : TypeId) (pos : String) (after : Array Edge) (x : Operand) : dops P ops R (⟨dst, .nilCheck x, ty, pos, after, none⟩ :: r) f S = dop P f S ty (.nilCheck x) (dnext P ops R r f dst) := (dops_cons ..).trans (Eq.refl _)
theorem dops_g_nilCheck (l : List Oper) (R : Fm → St → Prop) (r : List Oper) (dst : Option Tmp) (ty : TypeId) (pos : String) (after : Array Edge) (j : Nat) (want : Bool) (x : Operand) : dops P (List.toArray l) R (⟨dst, .nilCheck x, ty, pos, after, some (j, want)⟩ :: r) f S = dguardT (gtmp l j) f want (dopF P f S ty (.nilCheck x) (dnext P (List.toArray l) R r f dst)) (dskip P (List.toArray l) R r f dst S) := by
  rw [← gtmp_eq, dops_cons]; rfl
theorem dops_pb_nilCheck (ops : Array Oper) (R : Fm → St → Prop) (r : List Oper) (dst : Option Tmp) (ty : TypeId) (pos : String) (after : Array Edge) (t0 : TypeId) (n0 : Nat) (ps0 : Array (Nat × Operand)) (dst2 : Option Tmp) (ty2 : TypeId) (pos2 : String) (after2 : Array Edge) (g2 : Option (Nat × Bool)) (x : Operand) : dops P ops R (⟨dst, .buildSlice t0 n0 ps0, ty, pos, after, none⟩ :: ⟨dst2, .nilCheck x, ty2, pos2, after2, g2⟩ :: r) f S = dop P f S ty (.buildSlice t0 n0 ps0) (dnext P ops R (⟨dst2, .nilCheck x, ty2, pos2, after2, g2⟩ :: r) f dst) := (dops_cons ..).trans (Eq.refl _)
theorem dops_gb_nilCheck (l : List Oper) (R : Fm → St → Prop) (r : List Oper) (dst : Option Tmp) (ty : TypeId) (pos : String) (after : Array Edge) (j : Nat) (want : Bool) (t0 : TypeId) (n0 : Nat) (ps0 : Array (Nat × Operand)) (dst2 : Option Tmp) (ty2 : TypeId) (pos2 : String) (after2 : Array Edge) (g2 : Option (Nat × Bool)) (x : Operand) : dops P (List.toArray l) R (⟨dst, .buildSlice t0 n0 ps0, ty, pos, after, some (j, want)⟩ :: ⟨dst2, .nilCheck x, ty2, pos2, after2, g2⟩ :: r) f S = dguardT (gtmp l j) f want (dopF P f S ty (.buildSlice t0 n0 ps0) (dnext P (List.toArray l) R (⟨dst2, .nilCheck x, ty2, pos2, after2, g2⟩ :: r) f dst)) (dskip P (List.toArray l) R (⟨dst2, .nilCheck x, ty2, pos2, after2, g2⟩ :: r) f dst S) := by
  rw [← gtmp_eq, dops_cons]; rfl
theorem dops_p_binOp (ops : Array Oper) (R : Fm → St → Prop) (r : List Oper) (dst : Option Tmp) (ty : TypeId) (pos : String) (after : Array Edge) (op : BinOp) (xType : TypeId) (x y : Operand) (yType : TypeId) : dops P ops R (⟨dst, .binOp op xType x y yType, ty, pos, after, none⟩ :: r) f S = dop P f S ty (.binOp op xType x y yType) (dnext P ops R r f dst) := (dops_cons ..).trans (Eq.refl _)
theorem dops_g_binOp (l : List Oper) (R : Fm → St → Prop) (r : List Oper) (dst : Option Tmp) (ty : TypeId) (pos : String) (after : Array Edge) (j : Nat) (want : Bool) (op : BinOp) (xType : TypeId) (x y : Operand) (yType : TypeId) : dops P (List.toArray l) R (⟨dst, .binOp op xType x y yType, ty, pos, after, some (j, want)⟩ :: r) f S = dguardT (gtmp l j) f want (dopF P f S ty (.binOp op xType x y yType) (dnext P (List.toArray l) R r f dst)) (dskip P (List.toArray l) R r f dst S) := by
  rw [← gtmp_eq, dops_cons]; rfl
theorem dops_pb_binOp (ops : Array Oper) (R : Fm → St → Prop) (r : List Oper) (dst : Option Tmp) (ty : TypeId) (pos : String) (after : Array Edge) (t0 : TypeId) (n0 : Nat) (ps0 : Array (Nat × Operand)) (dst2 : Option Tmp) (ty2 : TypeId) (pos2 : String) (after2 : Array Edge) (g2 : Option (Nat × Bool)) (op : BinOp) (xType : TypeId) (x y : Operand) (yType : TypeId) : dops P ops R (⟨dst, .buildSlice t0 n0 ps0, ty, pos, after, none⟩ :: ⟨dst2, .binOp op xType x y yType, ty2, pos2, after2, g2⟩ :: r) f S = dop P f S ty (.buildSlice t0 n0 ps0) (dnext P ops R (⟨dst2, .binOp op xType x y yType, ty2, pos2, after2, g2⟩ :: r) f dst) := (dops_cons ..).trans (Eq.refl _)
theorem dops_gb_binOp (l : List Oper) (R : Fm → St → Prop) (r : List Oper) (dst : Option Tmp) (ty : TypeId) (pos : String) (after : Array Edge) (j : Nat) (want : Bool) (t0 : TypeId) (n0 : Nat) (ps0 : Array (Nat × Operand)) (dst2 : Option Tmp) (ty2 : TypeId) (pos2 : String) (after2 : Array Edge) (g2 : Option (Nat × Bool)) (op : BinOp) (xType : TypeId) (x y : Operand) (yType : TypeId) : dops P (List.toArray l) R (⟨dst, .buildSlice t0 n0 ps0, ty, pos, after, some (j, want)⟩ :: ⟨dst2, .binOp op xType x y yType, ty2, pos2, after2, g2⟩ :: r) f S = dguardT (gtmp l j) f want (dopF P f S ty (.buildSlice t0 n0 ps0) (dnext P (List.toArray l) R (⟨dst2, .binOp op xType x y yType, ty2, pos2, after2, g2⟩ :: r) f dst)) (dskip P (List.toArray l) R (⟨dst2, .binOp op xType x y yType, ty2, pos2, after2, g2⟩ :: r) f dst S) := by
  rw [← gtmp_eq, dops_cons]; rfl
theorem dops_p_unOp (ops : Array Oper) (R : Fm → St → Prop) (r : List Oper) (dst : Option Tmp) (ty : TypeId) (pos : String) (after : Array Edge) (op : UnOp) (xType : TypeId) (x : Operand) : dops P ops R (⟨dst, .unOp op xType x, ty, pos, after, none⟩ :: r) f S = dop P f S ty (.unOp op xType x) (dnext P ops R r f dst) := (dops_cons ..).trans (Eq.refl _)
theorem dops_g_unOp (l : List Oper) (R : Fm → St → Prop) (r : List Oper) (dst : Option Tmp) (ty : TypeId) (pos : String) (after : Array Edge) (j : Nat) (want : Bool) (op : UnOp) (xType : TypeId) (x : Operand) : dops P (List.toArray l) R (⟨dst, .unOp op xType x, ty, pos, after, some (j, want)⟩ :: r) f S = dguardT (gtmp l j) f want (dopF P f S ty (.unOp op xType x) (dnext P (List.toArray l) R r f dst)) (dskip P (List.toArray l) R r f dst S) := by
  rw [← gtmp_eq, dops_cons]; rfl
theorem dops_pb_unOp (ops : Array Oper) (R : Fm → St → Prop) (r : List Oper) (dst : Option Tmp) (ty : TypeId) (pos : String) (after : Array Edge) (t0 : TypeId) (n0 : Nat) (ps0 : Array (Nat × Operand)) (dst2 : Option Tmp) (ty2 : TypeId) (pos2 : String) (after2 : Array Edge) (g2 : Option (Nat × Bool)) (op : UnOp) (xType : TypeId) (x : Operand) : dops P ops R (⟨dst, .buildSlice t0 n0 ps0, ty, pos, after, none⟩ :: ⟨dst2, .unOp op xType x, ty2, pos2, after2, g2⟩ :: r) f S = dop P f S ty (.buildSlice t0 n0 ps0) (dnext P ops R (⟨dst2, .unOp op xType x, ty2, pos2, after2, g2⟩ :: r) f dst) := (dops_cons ..).trans (Eq.refl _)
theorem dops_gb_unOp (l : List Oper) (R : Fm → St → Prop) (r : List Oper) (dst : Option Tmp) (ty : TypeId) (pos : String) (after : Array Edge) (j : Nat) (want : Bool) (t0 : TypeId) (n0 : Nat) (ps0 : Array (Nat × Operand)) (dst2 : Option Tmp) (ty2 : TypeId) (pos2 : String) (after2 : Array Edge) (g2 : Option (Nat × Bool)) (op : UnOp) (xType : TypeId) (x : Operand) : dops P (List.toArray l) R (⟨dst, .buildSlice t0 n0 ps0, ty, pos, after, some (j, want)⟩ :: ⟨dst2, .unOp op xType x, ty2, pos2, after2, g2⟩ :: r) f S = dguardT (gtmp l j) f want (dopF P f S ty (.buildSlice t0 n0 ps0) (dnext P (List.toArray l) R (⟨dst2, .unOp op xType x, ty2, pos2, after2, g2⟩ :: r) f dst)) (dskip P (List.toArray l) R (⟨dst2, .unOp op xType x, ty2, pos2, after2, g2⟩ :: r) f dst S) := by
  rw [← gtmp_eq, dops_cons]; rfl
theorem dops_p_convert (ops : Array Oper) (R : Fm → St → Prop) (r : List Oper) (dst : Option Tmp) (ty : TypeId) (pos : String) (after : Array Edge) (src d' : TypeId) (x : Operand) : dops P ops R (⟨dst, .convert src d' x, ty, pos, after, none⟩ :: r) f S = dop P f S ty (.convert src d' x) (dnext P ops R r f dst) := (dops_cons ..).trans (Eq.refl _)
theorem dops_g_convert (l : List Oper) (R : Fm → St → Prop) (r : List Oper) (dst : Option Tmp) (ty : TypeId) (pos : String) (after : Array Edge) (j : Nat) (want : Bool) (src d' : TypeId) (x : Operand) : dops P (List.toArray l) R (⟨dst, .convert src d' x, ty, pos, after, some (j, want)⟩ :: r) f S = dguardT (gtmp l j) f want (dopF P f S ty (.convert src d' x) (dnext P (List.toArray l) R r f dst)) (dskip P (List.toArray l) R r f dst S) := by
  rw [← gtmp_eq, dops_cons]; rfl
theorem dops_p_sliceToArrayPointer (ops : Array Oper) (R : Fm → St → Prop) (r : List Oper) (dst : Option Tmp) (ty : TypeId) (pos : String) (after : Array Edge) (d' : TypeId) (x : Operand) : dops P ops R (⟨dst, .sliceToArrayPointer d' x, ty, pos, after, none⟩ :: r) f S = dop P f S ty (.sliceToArrayPointer d' x) (dnext P ops R r f dst) := (dops_cons ..).trans (Eq.refl _)
theorem dops_g_sliceToArrayPointer (l : List Oper) (R : Fm → St → Prop) (r : List Oper) (dst : Option Tmp) (ty : TypeId) (pos : String) (after : Array Edge) (j : Nat) (want : Bool) (d' : TypeId) (x : Operand) : dops P (List.toArray l) R (⟨dst, .sliceToArrayPointer d' x, ty, pos, after, some (j, want)⟩ :: r) f S = dguardT (gtmp l j) f want (dopF P f S ty (.sliceToArrayPointer d' x) (dnext P (List.toArray l) R r f dst)) (dskip P (List.toArray l) R r f dst S) := by
  rw [← gtmp_eq, dops_cons]; rfl
theorem dops_pb_sliceToArrayPointer (ops : Array Oper) (R : Fm → St → Prop) (r : List Oper) (dst : Option Tmp) (ty : TypeId) (pos : String) (after : Array Edge) (t0 : TypeId) (n0 : Nat) (ps0 : Array (Nat × Operand)) (dst2 : Option Tmp) (ty2 : TypeId) (pos2 : String) (after2 : Array Edge) (g2 : Option (Nat × Bool)) (d' : TypeId) (x : Operand) : dops P ops R (⟨dst, .buildSlice t0 n0 ps0, ty, pos, after, none⟩ :: ⟨dst2, .sliceToArrayPointer d' x, ty2, pos2, after2, g2⟩ :: r) f S = dop P f S ty (.buildSlice t0 n0 ps0) (dnext P ops R (⟨dst2, .sliceToArrayPointer d' x, ty2, pos2, after2, g2⟩ :: r) f dst) := (dops_cons ..).trans (Eq.refl _)
theorem dops_gb_sliceToArrayPointer (l : List Oper) (R : Fm → St → Prop) (r : List Oper) (dst : Option Tmp) (ty : TypeId) (pos : String) (after : Array Edge) (j : Nat) (want : Bool) (t0 : TypeId) (n0 : Nat) (ps0 : Array (Nat × Operand)) (dst2 : Option Tmp) (ty2 : TypeId) (pos2 : String) (after2 : Array Edge) (g2 : Option (Nat × Bool)) (d' : TypeId) (x : Operand) : dops P (List.toArray l) R (⟨dst, .buildSlice t0 n0 ps0, ty, pos, after, some (j, want)⟩ :: ⟨dst2, .sliceToArrayPointer d' x, ty2, pos2, after2, g2⟩ :: r) f S = dguardT (gtmp l j) f want (dopF P f S ty (.buildSlice t0 n0 ps0) (dnext P (List.toArray l) R (⟨dst2, .sliceToArrayPointer d' x, ty2, pos2, after2, g2⟩ :: r) f dst)) (dskip P (List.toArray l) R (⟨dst2, .sliceToArrayPointer d' x, ty2, pos2, after2, g2⟩ :: r) f dst S) := by
  rw [← gtmp_eq, dops_cons]; rfl
theorem dops_p_makeInterface (ops : Array Oper) (R : Fm → St → Prop) (r : List Oper) (dst : Option Tmp) (ty : TypeId) (pos : String) (after : Array Edge) (xType : TypeId) (x : Operand) : dops P ops R (⟨dst, .makeInterface xType x, ty, pos, after, none⟩ :: r) f S = dop P f S ty (.makeInterface xType x) (dnext P ops R r f dst) := (dops_cons ..).trans (Eq.refl _)
theorem dops_g_makeInterface (l : List Oper) (R : Fm → St → Prop) (r : List Oper) (dst : Option Tmp) (ty : TypeId) (pos : String) (after : Array Edge) (j : Nat) (want : Bool) (xType : TypeId) (x : Operand) : dops P (List.toArray l) R (⟨dst, .makeInterface xType x, ty, pos, after, some (j, want)⟩ :: r) f S = dguardT (gtmp l j) f want (dopF P f S ty (.makeInterface xType x) (dnext P (List.toArray l) R r f dst)) (dskip P (List.toArray l) R r f dst S) := by
  rw [← gtmp_eq, dops_cons]; rfl
theorem dops_pb_makeInterface (ops : Array Oper) (R : Fm → St → Prop) (r : List Oper) (dst : Option Tmp) (ty : TypeId) (pos : String) (after : Array Edge) (t0 : TypeId) (n0 : Nat) (ps0 : Array (Nat × Operand)) (dst2 : Option Tmp) (ty2 : TypeId) (pos2 : String) (after2 : Array Edge) (g2 : Option (Nat × Bool)) (xType : TypeId) (x : Operand) : dops P ops R (⟨dst, .buildSlice t0 n0 ps0, ty, pos, after, none⟩ :: ⟨dst2, .makeInterface xType x, ty2, pos2, after2, g2⟩ :: r) f S = dop P f S ty (.buildSlice t0 n0 ps0) (dnext P ops R (⟨dst2, .makeInterface xType x, ty2, pos2, after2, g2⟩ :: r) f dst) := (dops_cons ..).trans (Eq.refl _)
theorem dops_gb_makeInterface (l : List Oper) (R : Fm → St → Prop) (r : List Oper) (dst : Option Tmp) (ty : TypeId) (pos : String) (after : Array Edge) (j : Nat) (want : Bool) (t0 : TypeId) (n0 : Nat) (ps0 : Array (Nat × Operand)) (dst2 : Option Tmp) (ty2 : TypeId) (pos2 : String) (after2 : Array Edge) (g2 : Option (Nat × Bool)) (xType : TypeId) (x : Operand) : dops P (List.toArray l) R (⟨dst, .buildSlice t0 n0 ps0, ty, pos, after, some (j, want)⟩ :: ⟨dst2, .makeInterface xType x, ty2, pos2, after2, g2⟩ :: r) f S = dguardT (gtmp l j) f want (dopF P f S ty (.buildSlice t0 n0 ps0) (dnext P (List.toArray l) R (⟨dst2, .makeInterface xType x, ty2, pos2, after2, g2⟩ :: r) f dst)) (dskip P (List.toArray l) R (⟨dst2, .makeInterface xType x, ty2, pos2, after2, g2⟩ :: r) f dst S) := by
  rw [← gtmp_eq, dops_cons]; rfl
theorem dops_p_makeFunc (ops : Array Oper) (R : Fm → St → Prop) (r : List Oper) (dst : Option Tmp) (ty : TypeId) (pos : String) (after : Array Edge) (fn : Fn) (first captured : Array Operand) : dops P ops R (⟨dst, .makeFunc fn first captured, ty, pos, after, none⟩ :: r) f S = dop P f S ty (.makeFunc fn first captured) (dnext P ops R r f dst) := (dops_cons ..).trans (Eq.refl _)
theorem dops_g_makeFunc (l : List Oper) (R : Fm → St → Prop) (r : List Oper) (dst : Option Tmp) (ty : TypeId) (pos : String) (after : Array Edge) (j : Nat) (want : Bool) (fn : Fn) (first captured : Array Operand) : dops P (List.toArray l) R (⟨dst, .makeFunc fn first captured, ty, pos, after, some (j, want)⟩ :: r) f S = dguardT (gtmp l j) f want (dopF P f S ty (.makeFunc fn first captured) (dnext P (List.toArray l) R r f dst)) (dskip P (List.toArray l) R r f dst S) := by
  rw [← gtmp_eq, dops_cons]; rfl
theorem dops_pb_makeFunc (ops : Array Oper) (R : Fm → St → Prop) (r : List Oper) (dst : Option Tmp) (ty : TypeId) (pos : String) (after : Array Edge) (t0 : TypeId) (n0 : Nat) (ps0 : Array (Nat × Operand)) (dst2 : Option Tmp) (ty2 : TypeId) (pos2 : String) (after2 : Array Edge) (g2 : Option (Nat × Bool)) (fn : Fn) (first captured : Array Operand) : dops P ops R (⟨dst, .buildSlice t0 n0 ps0, ty, pos, after, none⟩ :: ⟨dst2, .makeFunc fn first captured, ty2, pos2, after2, g2⟩ :: r) f S = dop P f S ty (.buildSlice t0 n0 ps0) (dnext P ops R (⟨dst2, .makeFunc fn first captured, ty2, pos2, after2, g2⟩ :: r) f dst) := (dops_cons ..).trans (Eq.refl _)
theorem dops_gb_makeFunc (l : List Oper) (R : Fm → St → Prop) (r : List Oper) (dst : Option Tmp) (ty : TypeId) (pos : String) (after : Array Edge) (j : Nat) (want : Bool) (t0 : TypeId) (n0 : Nat) (ps0 : Array (Nat × Operand)) (dst2 : Option Tmp) (ty2 : TypeId) (pos2 : String) (after2 : Array Edge) (g2 : Option (Nat × Bool)) (fn : Fn) (first captured : Array Operand) : dops P (List.toArray l) R (⟨dst, .buildSlice t0 n0 ps0, ty, pos, after, some (j, want)⟩ :: ⟨dst2, .makeFunc fn first captured, ty2, pos2, after2, g2⟩ :: r) f S = dguardT (gtmp l j) f want (dopF P f S ty (.buildSlice t0 n0 ps0) (dnext P (List.toArray l) R (⟨dst2, .makeFunc fn first captured, ty2, pos2, after2, g2⟩ :: r) f dst)) (dskip P (List.toArray l) R (⟨dst2, .makeFunc fn first captured, ty2, pos2, after2, g2⟩ :: r) f dst S) := by
  rw [← gtmp_eq, dops_cons]; rfl
theorem dops_p_makeMap (ops : Array Oper) (R : Fm → St → Prop) (r : List Oper) (dst : Option Tmp) (ty : TypeId) (pos : String) (after : Array Edge) (t : TypeId) (reserve : Option Operand) : dops P ops R (⟨dst, .makeMap t reserve, ty, pos, after, none⟩ :: r) f S = dop P f S ty (.makeMap t reserve) (dnext P ops R r f dst) := (dops_cons ..).trans (Eq.refl _)
theorem dops_g_makeMap (l : List Oper) (R : Fm → St → Prop) (r : List Oper) (dst : Option Tmp) (ty : TypeId) (pos : String) (after : Array Edge) (j : Nat) (want : Bool) (t : TypeId) (reserve : Option Operand) : dops P (List.toArray l) R (⟨dst, .makeMap t reserve, ty, pos, after, some (j, want)⟩ :: r) f S = dguardT (gtmp l j) f want (dopF P f S ty (.makeMap t reserve) (dnext P (List.toArray l) R r f dst)) (dskip P (List.toArray l) R r f dst S) := by
  rw [← gtmp_eq, dops_cons]; rfl
theorem dops_pb_makeMap (ops : Array Oper) (R : Fm → St → Prop) (r : List Oper) (dst : Option Tmp) (ty : TypeId) (pos : String) (after : Array Edge) (t0 : TypeId) (n0 : Nat) (ps0 : Array (Nat × Operand)) (dst2 : Option Tmp) (ty2 : TypeId) (pos2 : String) (after2 : Array Edge) (g2 : Option (Nat × Bool)) (t : TypeId) (reserve : Option Operand) : dops P ops R (⟨dst, .buildSlice t0 n0 ps0, ty, pos, after, none⟩ :: ⟨dst2, .makeMap t reserve, ty2, pos2, after2, g2⟩ :: r) f S = dop P f S ty (.buildSlice t0 n0 ps0) (dnext P ops R (⟨dst2, .makeMap t reserve, ty2, pos2, after2, g2⟩ :: r) f dst) := (dops_cons ..).trans (Eq.refl _)
theorem dops_gb_makeMap (l : List Oper) (R : Fm → St → Prop) (r : List Oper) (dst : Option Tmp) (ty : TypeId) (pos : String) (after : Array Edge) (j : Nat) (want : Bool) (t0 : TypeId) (n0 : Nat) (ps0 : Array (Nat × Operand)) (dst2 : Option Tmp) (ty2 : TypeId) (pos2 : String) (after2 : Array Edge) (g2 : Option (Nat × Bool)) (t : TypeId) (reserve : Option Operand) : dops P (List.toArray l) R (⟨dst, .buildSlice t0 n0 ps0, ty, pos, after, some (j, want)⟩ :: ⟨dst2, .makeMap t reserve, ty2, pos2, after2, g2⟩ :: r) f S = dguardT (gtmp l j) f want (dopF P f S ty (.buildSlice t0 n0 ps0) (dnext P (List.toArray l) R (⟨dst2, .makeMap t reserve, ty2, pos2, after2, g2⟩ :: r) f dst)) (dskip P (List.toArray l) R (⟨dst2, .makeMap t reserve, ty2, pos2, after2, g2⟩ :: r) f dst S) := by
  rw [← gtmp_eq, dops_cons]; rfl
theorem dops_p_makeChan (ops : Array Oper) (R : Fm → St → Prop) (r : List Oper) (dst : Option Tmp) (ty : TypeId) (pos : String) (after : Array Edge) (t : TypeId) (size : Operand) : dops P ops R (⟨dst, .makeChan t size, ty, pos, after, none⟩ :: r) f S = dop P f S ty (.makeChan t size) (dnext P ops R r f dst) := (dops_cons ..).trans (Eq.refl _)
theorem dops_g_makeChan (l : List Oper) (R : Fm → St → Prop) (r : List Oper) (dst : Option Tmp) (ty : TypeId) (pos : String) (after : Array Edge) (j : Nat) (want : Bool) (t : TypeId) (size : Operand) : dops P (List.toArray l) R (⟨dst, .makeChan t size, ty, pos, after, some (j, want)⟩ :: r) f S = dguardT (gtmp l j) f want (dopF P f S ty (.makeChan t size) (dnext P (List.toArray l) R r f dst)) (dskip P (List.toArray l) R r f dst S) := by
  rw [← gtmp_eq, dops_cons]; rfl
theorem dops_pb_makeChan (ops : Array Oper) (R : Fm → St → Prop) (r : List Oper) (dst : Option Tmp) (ty : TypeId) (pos : String) (after : Array Edge) (t0 : TypeId) (n0 : Nat) (ps0 : Array (Nat × Operand)) (dst2 : Option Tmp) (ty2 : TypeId) (pos2 : String) (after2 : Array Edge) (g2 : Option (Nat × Bool)) (t : TypeId) (size : Operand) : dops P ops R (⟨dst, .buildSlice t0 n0 ps0, ty, pos, after, none⟩ :: ⟨dst2, .makeChan t size, ty2, pos2, after2, g2⟩ :: r) f S = dop P f S ty (.buildSlice t0 n0 ps0) (dnext P ops R (⟨dst2, .makeChan t size, ty2, pos2, after2, g2⟩ :: r) f dst) := (dops_cons ..).trans (Eq.refl _)
theorem dops_gb_makeChan (l : List Oper) (R : Fm → St → Prop) (r : List Oper) (dst : Option Tmp) (ty : TypeId) (pos : String) (after : Array Edge) (j : Nat) (want : Bool) (t0 : TypeId) (n0 : Nat) (ps0 : Array (Nat × Operand)) (dst2 : Option Tmp) (ty2 : TypeId) (pos2 : String) (after2 : Array Edge) (g2 : Option (Nat × Bool)) (t : TypeId) (size : Operand) : dops P (List.toArray l) R (⟨dst, .buildSlice t0 n0 ps0, ty, pos, after, some (j, want)⟩ :: ⟨dst2, .makeChan t size, ty2, pos2, after2, g2⟩ :: r) f S = dguardT (gtmp l j) f want (dopF P f S ty (.buildSlice t0 n0 ps0) (dnext P (List.toArray l) R (⟨dst2, .makeChan t size, ty2, pos2, after2, g2⟩ :: r) f dst)) (dskip P (List.toArray l) R (⟨dst2, .makeChan t size, ty2, pos2, after2, g2⟩ :: r) f dst S) := by
  rw [← gtmp_eq, dops_cons]; rfl
theorem dops_p_makeSlice (ops : Array Oper) (R : Fm → St → Prop) (r : List Oper) (dst : Option Tmp) (ty : TypeId) (pos : String) (after : Array Edge) (t : TypeId) (len cap : Operand) : dops P ops R (⟨dst, .makeSlice t len cap, ty, pos, after, none⟩ :: r) f S = dop P f S ty (.makeSlice t len cap) (dnext P ops R r f dst) := (dops_cons ..).trans (Eq.refl _)
theorem dops_g_makeSlice (l : List Oper) (R : Fm → St → Prop) (r : List Oper) (dst : Option Tmp) (ty : TypeId) (pos : String) (after : Array Edge) (j : Nat) (want : Bool) (t : TypeId) (len cap : Operand) : dops P (List.toArray l) R (⟨dst, .makeSlice t len cap, ty, pos, after, some (j, want)⟩ :: r) f S = dguardT (gtmp l j) f want (dopF P f S ty (.makeSlice t len cap) (dnext P (List.toArray l) R r f dst)) (dskip P (List.toArray l) R r f dst S) := by
  rw [← gtmp_eq, dops_cons]; rfl
theorem dops_pb_makeSlice (ops : Array Oper) (R : Fm → St → Prop) (r : List Oper) (dst : Option Tmp) (ty : TypeId) (pos : String) (after : Array Edge) (t0 : TypeId) (n0 : Nat) (ps0 : Array (Nat × Operand)) (dst2 : Option Tmp) (ty2 : TypeId) (pos2 : String) (after2 : Array Edge) (g2 : Option (Nat × Bool)) (t : TypeId) (len cap : Operand) : dops P ops R (⟨dst, .buildSlice t0 n0 ps0, ty, pos, after, none⟩ :: ⟨dst2, .makeSlice t len cap, ty2, pos2, after2, g2⟩ :: r) f S = dop P f S ty (.buildSlice t0 n0 ps0) (dnext P ops R (⟨dst2, .makeSlice t len cap, ty2, pos2, after2, g2⟩ :: r) f dst) := (dops_cons ..).trans (Eq.refl _)
theorem dops_gb_makeSlice (l : List Oper) (R : Fm → St → Prop) (r : List Oper) (dst : Option Tmp) (ty : TypeId) (pos : String) (after : Array Edge) (j : Nat) (want : Bool) (t0 : TypeId) (n0 : Nat) (ps0 : Array (Nat × Operand)) (dst2 : Option Tmp) (ty2 : TypeId) (pos2 : String) (after2 : Array Edge) (g2 : Option (Nat × Bool)) (t : TypeId) (len cap : Operand) : dops P (List.toArray l) R (⟨dst, .buildSlice t0 n0 ps0, ty, pos, after, some (j, want)⟩ :: ⟨dst2, .makeSlice t len cap, ty2, pos2, after2, g2⟩ :: r) f S = dguardT (gtmp l j) f want (dopF P f S ty (.buildSlice t0 n0 ps0) (dnext P (List.toArray l) R (⟨dst2, .makeSlice t len cap, ty2, pos2, after2, g2⟩ :: r) f dst)) (dskip P (List.toArray l) R (⟨dst2, .makeSlice t len cap, ty2, pos2, after2, g2⟩ :: r) f dst S) := by
  rw [← gtmp_eq, dops_cons]; rfl
theorem dops_p_slice (ops : Array Oper) (R : Fm → St → Prop) (r : List Oper) (dst : Option Tmp) (ty : TypeId) (pos : String) (after : Array Edge) (xType : TypeId) (x : Operand) (low high max : Option Operand) : dops P ops R (⟨dst, .slice xType x low high max, ty, pos, after, none⟩ :: r) f S = dop P f S ty (.slice xType x low high max) (dnext P ops R r f dst) := (dops_cons ..).trans (Eq.refl _)
theorem dops_g_slice (l : List Oper) (R : Fm → St → Prop) (r : List Oper) (dst : Option Tmp) (ty : TypeId) (pos : String) (after : Array Edge) (j : Nat) (want : Bool) (xType : TypeId) (x : Operand) (low high max : Option Operand) : dops P (List.toArray l) R (⟨dst, .slice xType x low high max, ty, pos, after, some (j, want)⟩ :: r) f S = dguardT (gtmp l j) f want (dopF P f S ty (.slice xType x low high max) (dnext P (List.toArray l) R r f dst)) (dskip P (List.toArray l) R r f dst S) := by
  rw [← gtmp_eq, dops_cons]; rfl
theorem dops_pb_slice (ops : Array Oper) (R : Fm → St → Prop) (r : List Oper) (dst : Option Tmp) (ty : TypeId) (pos : String) (after : Array Edge) (t0 : TypeId) (n0 : Nat) (ps0 : Array (Nat × Operand)) (dst2 : Option Tmp) (ty2 : TypeId) (pos2 : String) (after2 : Array Edge) (g2 : Option (Nat × Bool)) (xType : TypeId) (x : Operand) (low high max : Option Operand) : dops P ops R (⟨dst, .buildSlice t0 n0 ps0, ty, pos, after, none⟩ :: ⟨dst2, .slice xType x low high max, ty2, pos2, after2, g2⟩ :: r) f S = dop P f S ty (.buildSlice t0 n0 ps0) (dnext P ops R (⟨dst2, .slice xType x low high max, ty2, pos2, after2, g2⟩ :: r) f dst) := (dops_cons ..).trans (Eq.refl _)
theorem dops_gb_slice (l : List Oper) (R : Fm → St → Prop) (r : List Oper) (dst : Option Tmp) (ty : TypeId) (pos : String) (after : Array Edge) (j : Nat) (want : Bool) (t0 : TypeId) (n0 : Nat) (ps0 : Array (Nat × Operand)) (dst2 : Option Tmp) (ty2 : TypeId) (pos2 : String) (after2 : Array Edge) (g2 : Option (Nat × Bool)) (xType : TypeId) (x : Operand) (low high max : Option Operand) : dops P (List.toArray l) R (⟨dst, .buildSlice t0 n0 ps0, ty, pos, after, some (j, want)⟩ :: ⟨dst2, .slice xType x low high max, ty2, pos2, after2, g2⟩ :: r) f S = dguardT (gtmp l j) f want (dopF P f S ty (.buildSlice t0 n0 ps0) (dnext P (List.toArray l) R (⟨dst2, .slice xType x low high max, ty2, pos2, after2, g2⟩ :: r) f dst)) (dskip P (List.toArray l) R (⟨dst2, .slice xType x low high max, ty2, pos2, after2, g2⟩ :: r) f dst S) := by
  rw [← gtmp_eq, dops_cons]; rfl
theorem dops_p_fieldAddr (ops : Array Oper) (R : Fm → St → Prop) (r : List Oper) (dst : Option Tmp) (ty : TypeId) (pos : String) (after : Array Edge) (xType : TypeId) (x : Operand) (field : Nat) : dops P ops R (⟨dst, .fieldAddr xType x field, ty, pos, after, none⟩ :: r) f S = dop P f S ty (.fieldAddr xType x field) (dnext P ops R r f dst) := (dops_cons ..).trans (Eq.refl _)
theorem dops_g_fieldAddr (l : List Oper) (R : Fm → St → Prop) (r : List Oper) (dst : Option Tmp) (ty : TypeId) (pos : String) (after : Array Edge) (j : Nat) (want : Bool) (xType : TypeId) (x : Operand) (field : Nat) : dops P (List.toArray l) R (⟨dst, .fieldAddr xType x field, ty, pos, after, some (j, want)⟩ :: r) f S = dguardT (gtmp l j) f want (dopF P f S ty (.fieldAddr xType x field) (dnext P (List.toArray l) R r f dst)) (dskip P (List.toArray l) R r f dst S) := by
  rw [← gtmp_eq, dops_cons]; rfl
theorem dops_pb_fieldAddr (ops : Array Oper) (R : Fm → St → Prop) (r : List Oper) (dst : Option Tmp) (ty : TypeId) (pos : String) (after : Array Edge) (t0 : TypeId) (n0 : Nat) (ps0 : Array (Nat × Operand)) (dst2 : Option Tmp) (ty2 : TypeId) (pos2 : String) (after2 : Array Edge) (g2 : Option (Nat × Bool)) (xType : TypeId) (x : Operand) (field : Nat) : dops P ops R (⟨dst, .buildSlice t0 n0 ps0, ty, pos, after, none⟩ :: ⟨dst2, .fieldAddr xType x field, ty2, pos2, after2, g2⟩ :: r) f S = dop P f S ty (.buildSlice t0 n0 ps0) (dnext P ops R (⟨dst2, .fieldAddr xType x field, ty2, pos2, after2, g2⟩ :: r) f dst) := (dops_cons ..).trans (Eq.refl _)
theorem dops_gb_fieldAddr (l : List Oper) (R : Fm → St → Prop) (r : List Oper) (dst : Option Tmp) (ty : TypeId) (pos : String) (after : Array Edge) (j : Nat) (want : Bool) (t0 : TypeId) (n0 : Nat) (ps0 : Array (Nat × Operand)) (dst2 : Option Tmp) (ty2 : TypeId) (pos2 : String) (after2 : Array Edge) (g2 : Option (Nat × Bool)) (xType : TypeId) (x : Operand) (field : Nat) : dops P (List.toArray l) R (⟨dst, .buildSlice t0 n0 ps0, ty, pos, after, some (j, want)⟩ :: ⟨dst2, .fieldAddr xType x field, ty2, pos2, after2, g2⟩ :: r) f S = dguardT (gtmp l j) f want (dopF P f S ty (.buildSlice t0 n0 ps0) (dnext P (List.toArray l) R (⟨dst2, .fieldAddr xType x field, ty2, pos2, after2, g2⟩ :: r) f dst)) (dskip P (List.toArray l) R (⟨dst2, .fieldAddr xType x field, ty2, pos2, after2, g2⟩ :: r) f dst S) := by
  rw [← gtmp_eq, dops_cons]; rfl
theorem dops_p_field (ops : Array Oper) (R : Fm → St → Prop) (r : List Oper) (dst : Option Tmp) (ty : TypeId) (pos : String) (after : Array Edge) (xType : TypeId) (x : Operand) (field : Nat) : dops P ops R (⟨dst, .field xType x field, ty, pos, after, none⟩ :: r) f S = dop P f S ty (.field xType x field) (dnext P ops R r f dst) := (dops_cons ..).trans (Eq.refl _)
theorem dops_g_field (l : List Oper) (R : Fm → St → Prop) (r : List Oper) (dst : Option Tmp) (ty : TypeId) (pos : String) (after : Array Edge) (j : Nat) (want : Bool) (xType : TypeId) (x : Operand) (field : Nat) : dops P (List.toArray l) R (⟨dst, .field xType x field, ty, pos, after, some (j, want)⟩ :: r) f S = dguardT (gtmp l j) f want (dopF P f S ty (.field xType x field) (dnext P (List.toArray l) R r f dst)) (dskip P (List.toArray l) R r f dst S) := by
  rw [← gtmp_eq, dops_cons]; rfl
theorem dops_pb_field (ops : Array Oper) (R : Fm → St → Prop) (r : List Oper) (dst : Option Tmp) (ty : TypeId) (pos : String) (after : Array Edge) (t0 : TypeId) (n0 : Nat) (ps0 : Array (Nat × Operand)) (dst2 : Option Tmp) (ty2 : TypeId) (pos2 : String) (after2 : Array Edge) (g2 : Option (Nat × Bool)) (xType : TypeId) (x : Operand) (field : Nat) : dops P ops R (⟨dst, .buildSlice t0 n0 ps0, ty, pos, after, none⟩ :: ⟨dst2, .field xType x field, ty2, pos2, after2, g2⟩ :: r) f S = dop P f S ty (.buildSlice t0 n0 ps0) (dnext P ops R (⟨dst2, .field xType x field, ty2, pos2, after2, g2⟩ :: r) f dst) := (dops_cons ..).trans (Eq.refl _)
theorem dops_gb_field (l : List Oper) (R : Fm → St → Prop) (r : List Oper) (dst : Option Tmp) (ty : TypeId) (pos : String) (after : Array Edge) (j : Nat) (want : Bool) (t0 : TypeId) (n0 : Nat) (ps0 : Array (Nat × Operand)) (dst2 : Option Tmp) (ty2 : TypeId) (pos2 : String) (after2 : Array Edge) (g2 : Option (Nat × Bool)) (xType : TypeId) (x : Operand) (field : Nat) : dops P (List.toArray l) R (⟨dst, .buildSlice t0 n0 ps0, ty, pos, after, some (j, want)⟩ :: ⟨dst2, .field xType x field, ty2, pos2, after2, g2⟩ :: r) f S = dguardT (gtmp l j) f want (dopF P f S ty (.buildSlice t0 n0 ps0) (dnext P (List.toArray l) R (⟨dst2, .field xType x field, ty2, pos2, after2, g2⟩ :: r) f dst)) (dskip P (List.toArray l) R (⟨dst2, .field xType x field, ty2, pos2, after2, g2⟩ :: r) f dst S) := by
  rw [← gtmp_eq, dops_cons]; rfl
theorem dops_p_indexAddr (ops : Array Oper) (R : Fm → St → Prop) (r : List Oper) (dst : Option Tmp) (ty : TypeId) (pos : String) (after : Array Edge) (xType : TypeId) (x index : Operand) : dops P ops R (⟨dst, .indexAddr xType x index, ty, pos, after, none⟩ :: r) f S = dop P f S ty (.indexAddr xType x index) (dnext P ops R r f dst) := (dops_cons ..).trans (Eq.refl _)
theorem dops_g_indexAddr (l : List Oper) (R : Fm → St → Prop) (r : List Oper) (dst : Option Tmp) (ty : TypeId) (pos : String) (after : Array Edge) (j : Nat) (want : Bool) (xType : TypeId) (x index : Operand) : dops P (List.toArray l) R (⟨dst, .indexAddr xType x index, ty, pos, after, some (j, want)⟩ :: r) f S = dguardT (gtmp l j) f want (dopF P f S ty (.indexAddr xType x index) (dnext P (List.toArray l) R r f dst)) (dskip P (List.toArray l) R r f dst S) := by
  rw [← gtmp_eq, dops_cons]; rfl
theorem dops_pb_indexAddr (ops : Array Oper) (R : Fm → St → Prop) (r : List Oper) (dst : Option Tmp) (ty : TypeId) (pos : String) (after : Array Edge) (t0 : TypeId) (n0 : Nat) (ps0 : Array (Nat × Operand)) (dst2 : Option Tmp) (ty2 : TypeId) (pos2 : String) (after2 : Array Edge) (g2 : Option (Nat × Bool)) (xType : TypeId) (x index : Operand) : dops P ops R (⟨dst, .buildSlice t0 n0 ps0, ty, pos, after, none⟩ :: ⟨dst2, .indexAddr xType x index, ty2, pos2, after2, g2⟩ :: r) f S = dop P f S ty (.buildSlice t0 n0 ps0) (dnext P ops R (⟨dst2, .indexAddr xType x index, ty2, pos2, after2, g2⟩ :: r) f dst) := (dops_cons ..).trans (Eq.refl _)
theorem dops_gb_indexAddr (l : List Oper) (R : Fm → St → Prop) (r : List Oper) (dst : Option Tmp) (ty : TypeId) (pos : String) (after : Array Edge) (j : Nat) (want : Bool) (t0 : TypeId) (n0 : Nat) (ps0 : Array (Nat × Operand)) (dst2 : Option Tmp) (ty2 : TypeId) (pos2 : String) (after2 : Array Edge) (g2 : Option (Nat × Bool)) (xType : TypeId) (x index : Operand) : dops P (List.toArray l) R (⟨dst, .buildSlice t0 n0 ps0, ty, pos, after, some (j, want)⟩ :: ⟨dst2, .indexAddr xType x index, ty2, pos2, after2, g2⟩ :: r) f S = dguardT (gtmp l j) f want (dopF P f S ty (.buildSlice t0 n0 ps0) (dnext P (List.toArray l) R (⟨dst2, .indexAddr xType x index, ty2, pos2, after2, g2⟩ :: r) f dst)) (dskip P (List.toArray l) R (⟨dst2, .indexAddr xType x index, ty2, pos2, after2, g2⟩ :: r) f dst S) := by
  rw [← gtmp_eq, dops_cons]; rfl
theorem dops_p_index (ops : Array Oper) (R : Fm → St → Prop) (r : List Oper) (dst : Option Tmp) (ty : TypeId) (pos : String) (after : Array Edge) (xType : TypeId) (x index : Operand) : dops P ops R (⟨dst, .index xType x index, ty, pos, after, none⟩ :: r) f S = dop P f S ty (.index xType x index) (dnext P ops R r f dst) := (dops_cons ..).trans (Eq.refl _)
theorem dops_g_index (l : List Oper) (R : Fm → St → Prop) (r : List Oper) (dst : Option Tmp) (ty : TypeId) (pos : String) (after : Array Edge) (j : Nat) (want : Bool) (xType : TypeId) (x index : Operand) : dops P (List.toArray l) R (⟨dst, .index xType x index, ty, pos, after, some (j, want)⟩ :: r) f S = dguardT (gtmp l j) f want (dopF P f S ty (.index xType x index) (dnext P (List.toArray l) R r f dst)) (dskip P (List.toArray l) R r f dst S) := by
  rw [← gtmp_eq, dops_cons]; rfl
theorem dops_pb_index (ops : Array Oper) (R : Fm → St → Prop) (r : List Oper) (dst : Option Tmp) (ty : TypeId) (pos : String) (after : Array Edge) (t0 : TypeId) (n0 : Nat) (ps0 : Array (Nat × Operand)) (dst2 : Option Tmp) (ty2 : TypeId) (pos2 : String) (after2 : Array Edge) (g2 : Option (Nat × Bool)) (xType : TypeId) (x index : Operand) : dops P ops R (⟨dst, .buildSlice t0 n0 ps0, ty, pos, after, none⟩ :: ⟨dst2, .index xType x index, ty2, pos2, after2, g2⟩ :: r) f S = dop P f S ty (.buildSlice t0 n0 ps0) (dnext P ops R (⟨dst2, .index xType x index, ty2, pos2, after2, g2⟩ :: r) f dst) := (dops_cons ..).trans (Eq.refl _)
theorem dops_gb_index (l : List Oper) (R : Fm → St → Prop) (r : List Oper) (dst : Option Tmp) (ty : TypeId) (pos : String) (after : Array Edge) (j : Nat) (want : Bool) (t0 : TypeId) (n0 : Nat) (ps0 : Array (Nat × Operand)) (dst2 : Option Tmp) (ty2 : TypeId) (pos2 : String) (after2 : Array Edge) (g2 : Option (Nat × Bool)) (xType : TypeId) (x index : Operand) : dops P (List.toArray l) R (⟨dst, .buildSlice t0 n0 ps0, ty, pos, after, some (j, want)⟩ :: ⟨dst2, .index xType x index, ty2, pos2, after2, g2⟩ :: r) f S = dguardT (gtmp l j) f want (dopF P f S ty (.buildSlice t0 n0 ps0) (dnext P (List.toArray l) R (⟨dst2, .index xType x index, ty2, pos2, after2, g2⟩ :: r) f dst)) (dskip P (List.toArray l) R (⟨dst2, .index xType x index, ty2, pos2, after2, g2⟩ :: r) f dst S) := by
  rw [← gtmp_eq, dops_cons]; rfl
theorem dops_p_lookup (ops : Array Oper) (R : Fm → St → Prop) (r : List Oper) (dst : Option Tmp) (ty : TypeId) (pos : String) (after : Array Edge) (xType : TypeId) (x index : Operand) (commaOk : Bool) : dops P ops R (⟨dst, .lookup xType x index commaOk, ty, pos, after, none⟩ :: r) f S = dop P f S ty (.lookup xType x index commaOk) (dnext P ops R r f dst) := (dops_cons ..).trans (Eq.refl _)
theorem dops_g_lookup (l : List Oper) (R : Fm → St → Prop) (r : List Oper) (dst : Option Tmp) (ty : TypeId) (pos : String) (after : Array Edge) (j : Nat) (want : Bool) (xType : TypeId) (x index : Operand) (commaOk : Bool) : dops P (List.toArray l) R (⟨dst, .lookup xType x index commaOk, ty, pos, after, some (j, want)⟩ :: r) f S = dguardT (gtmp l j) f want (dopF P f S ty (.lookup xType x index commaOk) (dnext P (List.toArray l) R r f dst)) (dskip P (List.toArray l) R r f dst S) := by
  rw [← gtmp_eq, dops_cons]; rfl
theorem dops_pb_lookup (ops : Array Oper) (R : Fm → St → Prop) (r : List Oper) (dst : Option Tmp) (ty : TypeId) (pos : String) (after : Array Edge) (t0 : TypeId) (n0 : Nat) (ps0 : Array (Nat × Operand)) (dst2 : Option Tmp) (ty2 : TypeId) (pos2 : String) (after2 : Array Edge) (g2 : Option (Nat × Bool)) (xType : TypeId) (x index : Operand) (commaOk : Bool) : dops P ops R (⟨dst, .buildSlice t0 n0 ps0, ty, pos, after, none⟩ :: ⟨dst2, .lookup xType x index commaOk, ty2, pos2, after2, g2⟩ :: r) f S = dop P f S ty (.buildSlice t0 n0 ps0) (dnext P ops R (⟨dst2, .lookup xType x index commaOk, ty2, pos2, after2, g2⟩ :: r) f dst) := (dops_cons ..).trans (Eq.refl _)
theorem dops_gb_lookup (l : List Oper) (R : Fm → St → Prop) (r : List Oper) (dst : Option Tmp) (ty : TypeId) (pos : String) (after : Array Edge) (j : Nat) (want : Bool) (t0 : TypeId) (n0 : Nat) (ps0 : Array (Nat × Operand)) (dst2 : Option Tmp) (ty2 : TypeId) (pos2 : String) (after2 : Array Edge) (g2 : Option (Nat × Bool)) (xType : TypeId) (x index : Operand) (commaOk : Bool) : dops P (List.toArray l) R (⟨dst, .buildSlice t0 n0 ps0, ty, pos, after, some (j, want)⟩ :: ⟨dst2, .lookup xType x index commaOk, ty2, pos2, after2, g2⟩ :: r) f S = dguardT (gtmp l j) f want (dopF P f S ty (.buildSlice t0 n0 ps0) (dnext P (List.toArray l) R (⟨dst2, .lookup xType x index commaOk, ty2, pos2, after2, g2⟩ :: r) f dst)) (dskip P (List.toArray l) R (⟨dst2, .lookup xType x index commaOk, ty2, pos2, after2, g2⟩ :: r) f dst S) := by
  rw [← gtmp_eq, dops_cons]; rfl
theorem dops_p_mapUpdate (ops : Array Oper) (R : Fm → St → Prop) (r : List Oper) (dst : Option Tmp) (ty : TypeId) (pos : String) (after : Array Edge) (mapType : TypeId) (map key value : Operand) : dops P ops R (⟨dst, .mapUpdate mapType map key value, ty, pos, after, none⟩ :: r) f S = dop P f S ty (.mapUpdate mapType map key value) (dnext P ops R r f dst) := (dops_cons ..).trans (Eq.refl _)
theorem dops_g_mapUpdate (l : List Oper) (R : Fm → St → Prop) (r : List Oper) (dst : Option Tmp) (ty : TypeId) (pos : String) (after : Array Edge) (j : Nat) (want : Bool) (mapType : TypeId) (map key value : Operand) : dops P (List.toArray l) R (⟨dst, .mapUpdate mapType map key value, ty, pos, after, some (j, want)⟩ :: r) f S = dguardT (gtmp l j) f want (dopF P f S ty (.mapUpdate mapType map key value) (dnext P (List.toArray l) R r f dst)) (dskip P (List.toArray l) R r f dst S) := by
  rw [← gtmp_eq, dops_cons]; rfl
theorem dops_pb_mapUpdate (ops : Array Oper) (R : Fm → St → Prop) (r : List Oper) (dst : Option Tmp) (ty : TypeId) (pos : String) (after : Array Edge) (t0 : TypeId) (n0 : Nat) (ps0 : Array (Nat × Operand)) (dst2 : Option Tmp) (ty2 : TypeId) (pos2 : String) (after2 : Array Edge) (g2 : Option (Nat × Bool)) (mapType : TypeId) (map key value : Operand) : dops P ops R (⟨dst, .buildSlice t0 n0 ps0, ty, pos, after, none⟩ :: ⟨dst2, .mapUpdate mapType map key value, ty2, pos2, after2, g2⟩ :: r) f S = dop P f S ty (.buildSlice t0 n0 ps0) (dnext P ops R (⟨dst2, .mapUpdate mapType map key value, ty2, pos2, after2, g2⟩ :: r) f dst) := (dops_cons ..).trans (Eq.refl _)
theorem dops_gb_mapUpdate (l : List Oper) (R : Fm → St → Prop) (r : List Oper) (dst : Option Tmp) (ty : TypeId) (pos : String) (after : Array Edge) (j : Nat) (want : Bool) (t0 : TypeId) (n0 : Nat) (ps0 : Array (Nat × Operand)) (dst2 : Option Tmp) (ty2 : TypeId) (pos2 : String) (after2 : Array Edge) (g2 : Option (Nat × Bool)) (mapType : TypeId) (map key value : Operand) : dops P (List.toArray l) R (⟨dst, .buildSlice t0 n0 ps0, ty, pos, after, some (j, want)⟩ :: ⟨dst2, .mapUpdate mapType map key value, ty2, pos2, after2, g2⟩ :: r) f S = dguardT (gtmp l j) f want (dopF P f S ty (.buildSlice t0 n0 ps0) (dnext P (List.toArray l) R (⟨dst2, .mapUpdate mapType map key value, ty2, pos2, after2, g2⟩ :: r) f dst)) (dskip P (List.toArray l) R (⟨dst2, .mapUpdate mapType map key value, ty2, pos2, after2, g2⟩ :: r) f dst S) := by
  rw [← gtmp_eq, dops_cons]; rfl
theorem dops_p_mapEntry (ops : Array Oper) (R : Fm → St → Prop) (r : List Oper) (dst : Option Tmp) (ty : TypeId) (pos : String) (after : Array Edge) (mapType : TypeId) (map key : Operand) : dops P ops R (⟨dst, .mapEntry mapType map key, ty, pos, after, none⟩ :: r) f S = dop P f S ty (.mapEntry mapType map key) (dnext P ops R r f dst) := (dops_cons ..).trans (Eq.refl _)
theorem dops_g_mapEntry (l : List Oper) (R : Fm → St → Prop) (r : List Oper) (dst : Option Tmp) (ty : TypeId) (pos : String) (after : Array Edge) (j : Nat) (want : Bool) (mapType : TypeId) (map key : Operand) : dops P (List.toArray l) R (⟨dst, .mapEntry mapType map key, ty, pos, after, some (j, want)⟩ :: r) f S = dguardT (gtmp l j) f want (dopF P f S ty (.mapEntry mapType map key) (dnext P (List.toArray l) R r f dst)) (dskip P (List.toArray l) R r f dst S) := by
  rw [← gtmp_eq, dops_cons]; rfl
theorem dops_pb_mapEntry (ops : Array Oper) (R : Fm → St → Prop) (r : List Oper) (dst : Option Tmp) (ty : TypeId) (pos : String) (after : Array Edge) (t0 : TypeId) (n0 : Nat) (ps0 : Array (Nat × Operand)) (dst2 : Option Tmp) (ty2 : TypeId) (pos2 : String) (after2 : Array Edge) (g2 : Option (Nat × Bool)) (mapType : TypeId) (map key : Operand) : dops P ops R (⟨dst, .buildSlice t0 n0 ps0, ty, pos, after, none⟩ :: ⟨dst2, .mapEntry mapType map key, ty2, pos2, after2, g2⟩ :: r) f S = dop P f S ty (.buildSlice t0 n0 ps0) (dnext P ops R (⟨dst2, .mapEntry mapType map key, ty2, pos2, after2, g2⟩ :: r) f dst) := (dops_cons ..).trans (Eq.refl _)
theorem dops_gb_mapEntry (l : List Oper) (R : Fm → St → Prop) (r : List Oper) (dst : Option Tmp) (ty : TypeId) (pos : String) (after : Array Edge) (j : Nat) (want : Bool) (t0 : TypeId) (n0 : Nat) (ps0 : Array (Nat × Operand)) (dst2 : Option Tmp) (ty2 : TypeId) (pos2 : String) (after2 : Array Edge) (g2 : Option (Nat × Bool)) (mapType : TypeId) (map key : Operand) : dops P (List.toArray l) R (⟨dst, .buildSlice t0 n0 ps0, ty, pos, after, some (j, want)⟩ :: ⟨dst2, .mapEntry mapType map key, ty2, pos2, after2, g2⟩ :: r) f S = dguardT (gtmp l j) f want (dopF P f S ty (.buildSlice t0 n0 ps0) (dnext P (List.toArray l) R (⟨dst2, .mapEntry mapType map key, ty2, pos2, after2, g2⟩ :: r) f dst)) (dskip P (List.toArray l) R (⟨dst2, .mapEntry mapType map key, ty2, pos2, after2, g2⟩ :: r) f dst S) := by
  rw [← gtmp_eq, dops_cons]; rfl
theorem dops_p_entryStore (ops : Array Oper) (R : Fm → St → Prop) (r : List Oper) (dst : Option Tmp) (ty : TypeId) (pos : String) (after : Array Edge) (mapType : TypeId) (map stamp value : Operand) : dops P ops R (⟨dst, .entryStore mapType map stamp value, ty, pos, after, none⟩ :: r) f S = dop P f S ty (.entryStore mapType map stamp value) (dnext P ops R r f dst) := (dops_cons ..).trans (Eq.refl _)
theorem dops_g_entryStore (l : List Oper) (R : Fm → St → Prop) (r : List Oper) (dst : Option Tmp) (ty : TypeId) (pos : String) (after : Array Edge) (j : Nat) (want : Bool) (mapType : TypeId) (map stamp value : Operand) : dops P (List.toArray l) R (⟨dst, .entryStore mapType map stamp value, ty, pos, after, some (j, want)⟩ :: r) f S = dguardT (gtmp l j) f want (dopF P f S ty (.entryStore mapType map stamp value) (dnext P (List.toArray l) R r f dst)) (dskip P (List.toArray l) R r f dst S) := by
  rw [← gtmp_eq, dops_cons]; rfl
theorem dops_pb_entryStore (ops : Array Oper) (R : Fm → St → Prop) (r : List Oper) (dst : Option Tmp) (ty : TypeId) (pos : String) (after : Array Edge) (t0 : TypeId) (n0 : Nat) (ps0 : Array (Nat × Operand)) (dst2 : Option Tmp) (ty2 : TypeId) (pos2 : String) (after2 : Array Edge) (g2 : Option (Nat × Bool)) (mapType : TypeId) (map stamp value : Operand) : dops P ops R (⟨dst, .buildSlice t0 n0 ps0, ty, pos, after, none⟩ :: ⟨dst2, .entryStore mapType map stamp value, ty2, pos2, after2, g2⟩ :: r) f S = dop P f S ty (.buildSlice t0 n0 ps0) (dnext P ops R (⟨dst2, .entryStore mapType map stamp value, ty2, pos2, after2, g2⟩ :: r) f dst) := (dops_cons ..).trans (Eq.refl _)
theorem dops_gb_entryStore (l : List Oper) (R : Fm → St → Prop) (r : List Oper) (dst : Option Tmp) (ty : TypeId) (pos : String) (after : Array Edge) (j : Nat) (want : Bool) (t0 : TypeId) (n0 : Nat) (ps0 : Array (Nat × Operand)) (dst2 : Option Tmp) (ty2 : TypeId) (pos2 : String) (after2 : Array Edge) (g2 : Option (Nat × Bool)) (mapType : TypeId) (map stamp value : Operand) : dops P (List.toArray l) R (⟨dst, .buildSlice t0 n0 ps0, ty, pos, after, some (j, want)⟩ :: ⟨dst2, .entryStore mapType map stamp value, ty2, pos2, after2, g2⟩ :: r) f S = dguardT (gtmp l j) f want (dopF P f S ty (.buildSlice t0 n0 ps0) (dnext P (List.toArray l) R (⟨dst2, .entryStore mapType map stamp value, ty2, pos2, after2, g2⟩ :: r) f dst)) (dskip P (List.toArray l) R (⟨dst2, .entryStore mapType map stamp value, ty2, pos2, after2, g2⟩ :: r) f dst S) := by
  rw [← gtmp_eq, dops_cons]; rfl
theorem dops_p_range (ops : Array Oper) (R : Fm → St → Prop) (r : List Oper) (dst : Option Tmp) (ty : TypeId) (pos : String) (after : Array Edge) (xType : TypeId) (x : Operand) : dops P ops R (⟨dst, .range xType x, ty, pos, after, none⟩ :: r) f S = dop P f S ty (.range xType x) (dnext P ops R r f dst) := (dops_cons ..).trans (Eq.refl _)
theorem dops_g_range (l : List Oper) (R : Fm → St → Prop) (r : List Oper) (dst : Option Tmp) (ty : TypeId) (pos : String) (after : Array Edge) (j : Nat) (want : Bool) (xType : TypeId) (x : Operand) : dops P (List.toArray l) R (⟨dst, .range xType x, ty, pos, after, some (j, want)⟩ :: r) f S = dguardT (gtmp l j) f want (dopF P f S ty (.range xType x) (dnext P (List.toArray l) R r f dst)) (dskip P (List.toArray l) R r f dst S) := by
  rw [← gtmp_eq, dops_cons]; rfl
theorem dops_pb_range (ops : Array Oper) (R : Fm → St → Prop) (r : List Oper) (dst : Option Tmp) (ty : TypeId) (pos : String) (after : Array Edge) (t0 : TypeId) (n0 : Nat) (ps0 : Array (Nat × Operand)) (dst2 : Option Tmp) (ty2 : TypeId) (pos2 : String) (after2 : Array Edge) (g2 : Option (Nat × Bool)) (xType : TypeId) (x : Operand) : dops P ops R (⟨dst, .buildSlice t0 n0 ps0, ty, pos, after, none⟩ :: ⟨dst2, .range xType x, ty2, pos2, after2, g2⟩ :: r) f S = dop P f S ty (.buildSlice t0 n0 ps0) (dnext P ops R (⟨dst2, .range xType x, ty2, pos2, after2, g2⟩ :: r) f dst) := (dops_cons ..).trans (Eq.refl _)
theorem dops_gb_range (l : List Oper) (R : Fm → St → Prop) (r : List Oper) (dst : Option Tmp) (ty : TypeId) (pos : String) (after : Array Edge) (j : Nat) (want : Bool) (t0 : TypeId) (n0 : Nat) (ps0 : Array (Nat × Operand)) (dst2 : Option Tmp) (ty2 : TypeId) (pos2 : String) (after2 : Array Edge) (g2 : Option (Nat × Bool)) (xType : TypeId) (x : Operand) : dops P (List.toArray l) R (⟨dst, .buildSlice t0 n0 ps0, ty, pos, after, some (j, want)⟩ :: ⟨dst2, .range xType x, ty2, pos2, after2, g2⟩ :: r) f S = dguardT (gtmp l j) f want (dopF P f S ty (.buildSlice t0 n0 ps0) (dnext P (List.toArray l) R (⟨dst2, .range xType x, ty2, pos2, after2, g2⟩ :: r) f dst)) (dskip P (List.toArray l) R (⟨dst2, .range xType x, ty2, pos2, after2, g2⟩ :: r) f dst S) := by
  rw [← gtmp_eq, dops_cons]; rfl
theorem dops_p_next (ops : Array Oper) (R : Fm → St → Prop) (r : List Oper) (dst : Option Tmp) (ty : TypeId) (pos : String) (after : Array Edge) (iter : Operand) (isString : Bool) : dops P ops R (⟨dst, .next iter isString, ty, pos, after, none⟩ :: r) f S = dop P f S ty (.next iter isString) (dnext P ops R r f dst) := (dops_cons ..).trans (Eq.refl _)
theorem dops_g_next (l : List Oper) (R : Fm → St → Prop) (r : List Oper) (dst : Option Tmp) (ty : TypeId) (pos : String) (after : Array Edge) (j : Nat) (want : Bool) (iter : Operand) (isString : Bool) : dops P (List.toArray l) R (⟨dst, .next iter isString, ty, pos, after, some (j, want)⟩ :: r) f S = dguardT (gtmp l j) f want (dopF P f S ty (.next iter isString) (dnext P (List.toArray l) R r f dst)) (dskip P (List.toArray l) R r f dst S) := by
  rw [← gtmp_eq, dops_cons]; rfl
theorem dops_pb_next (ops : Array Oper) (R : Fm → St → Prop) (r : List Oper) (dst : Option Tmp) (ty : TypeId) (pos : String) (after : Array Edge) (t0 : TypeId) (n0 : Nat) (ps0 : Array (Nat × Operand)) (dst2 : Option Tmp) (ty2 : TypeId) (pos2 : String) (after2 : Array Edge) (g2 : Option (Nat × Bool)) (iter : Operand) (isString : Bool) : dops P ops R (⟨dst, .buildSlice t0 n0 ps0, ty, pos, after, none⟩ :: ⟨dst2, .next iter isString, ty2, pos2, after2, g2⟩ :: r) f S = dop P f S ty (.buildSlice t0 n0 ps0) (dnext P ops R (⟨dst2, .next iter isString, ty2, pos2, after2, g2⟩ :: r) f dst) := (dops_cons ..).trans (Eq.refl _)
theorem dops_gb_next (l : List Oper) (R : Fm → St → Prop) (r : List Oper) (dst : Option Tmp) (ty : TypeId) (pos : String) (after : Array Edge) (j : Nat) (want : Bool) (t0 : TypeId) (n0 : Nat) (ps0 : Array (Nat × Operand)) (dst2 : Option Tmp) (ty2 : TypeId) (pos2 : String) (after2 : Array Edge) (g2 : Option (Nat × Bool)) (iter : Operand) (isString : Bool) : dops P (List.toArray l) R (⟨dst, .buildSlice t0 n0 ps0, ty, pos, after, some (j, want)⟩ :: ⟨dst2, .next iter isString, ty2, pos2, after2, g2⟩ :: r) f S = dguardT (gtmp l j) f want (dopF P f S ty (.buildSlice t0 n0 ps0) (dnext P (List.toArray l) R (⟨dst2, .next iter isString, ty2, pos2, after2, g2⟩ :: r) f dst)) (dskip P (List.toArray l) R (⟨dst2, .next iter isString, ty2, pos2, after2, g2⟩ :: r) f dst S) := by
  rw [← gtmp_eq, dops_cons]; rfl
theorem dops_p_entry (ops : Array Oper) (R : Fm → St → Prop) (r : List Oper) (dst : Option Tmp) (ty : TypeId) (pos : String) (after : Array Edge) (iter : Operand) : dops P ops R (⟨dst, .entry iter, ty, pos, after, none⟩ :: r) f S = dop P f S ty (.entry iter) (dnext P ops R r f dst) := (dops_cons ..).trans (Eq.refl _)
theorem dops_g_entry (l : List Oper) (R : Fm → St → Prop) (r : List Oper) (dst : Option Tmp) (ty : TypeId) (pos : String) (after : Array Edge) (j : Nat) (want : Bool) (iter : Operand) : dops P (List.toArray l) R (⟨dst, .entry iter, ty, pos, after, some (j, want)⟩ :: r) f S = dguardT (gtmp l j) f want (dopF P f S ty (.entry iter) (dnext P (List.toArray l) R r f dst)) (dskip P (List.toArray l) R r f dst S) := by
  rw [← gtmp_eq, dops_cons]; rfl
theorem dops_pb_entry (ops : Array Oper) (R : Fm → St → Prop) (r : List Oper) (dst : Option Tmp) (ty : TypeId) (pos : String) (after : Array Edge) (t0 : TypeId) (n0 : Nat) (ps0 : Array (Nat × Operand)) (dst2 : Option Tmp) (ty2 : TypeId) (pos2 : String) (after2 : Array Edge) (g2 : Option (Nat × Bool)) (iter : Operand) : dops P ops R (⟨dst, .buildSlice t0 n0 ps0, ty, pos, after, none⟩ :: ⟨dst2, .entry iter, ty2, pos2, after2, g2⟩ :: r) f S = dop P f S ty (.buildSlice t0 n0 ps0) (dnext P ops R (⟨dst2, .entry iter, ty2, pos2, after2, g2⟩ :: r) f dst) := (dops_cons ..).trans (Eq.refl _)
theorem dops_gb_entry (l : List Oper) (R : Fm → St → Prop) (r : List Oper) (dst : Option Tmp) (ty : TypeId) (pos : String) (after : Array Edge) (j : Nat) (want : Bool) (t0 : TypeId) (n0 : Nat) (ps0 : Array (Nat × Operand)) (dst2 : Option Tmp) (ty2 : TypeId) (pos2 : String) (after2 : Array Edge) (g2 : Option (Nat × Bool)) (iter : Operand) : dops P (List.toArray l) R (⟨dst, .buildSlice t0 n0 ps0, ty, pos, after, some (j, want)⟩ :: ⟨dst2, .entry iter, ty2, pos2, after2, g2⟩ :: r) f S = dguardT (gtmp l j) f want (dopF P f S ty (.buildSlice t0 n0 ps0) (dnext P (List.toArray l) R (⟨dst2, .entry iter, ty2, pos2, after2, g2⟩ :: r) f dst)) (dskip P (List.toArray l) R (⟨dst2, .entry iter, ty2, pos2, after2, g2⟩ :: r) f dst S) := by
  rw [← gtmp_eq, dops_cons]; rfl
theorem dops_p_typeAssert (ops : Array Oper) (R : Fm → St → Prop) (r : List Oper) (dst : Option Tmp) (ty : TypeId) (pos : String) (after : Array Edge) (x : Operand) (xType asserted : TypeId) (commaOk : Bool) : dops P ops R (⟨dst, .typeAssert x xType asserted commaOk, ty, pos, after, none⟩ :: r) f S = dop P f S ty (.typeAssert x xType asserted commaOk) (dnext P ops R r f dst) := (dops_cons ..).trans (Eq.refl _)
theorem dops_g_typeAssert (l : List Oper) (R : Fm → St → Prop) (r : List Oper) (dst : Option Tmp) (ty : TypeId) (pos : String) (after : Array Edge) (j : Nat) (want : Bool) (x : Operand) (xType asserted : TypeId) (commaOk : Bool) : dops P (List.toArray l) R (⟨dst, .typeAssert x xType asserted commaOk, ty, pos, after, some (j, want)⟩ :: r) f S = dguardT (gtmp l j) f want (dopF P f S ty (.typeAssert x xType asserted commaOk) (dnext P (List.toArray l) R r f dst)) (dskip P (List.toArray l) R r f dst S) := by
  rw [← gtmp_eq, dops_cons]; rfl
theorem dops_pb_typeAssert (ops : Array Oper) (R : Fm → St → Prop) (r : List Oper) (dst : Option Tmp) (ty : TypeId) (pos : String) (after : Array Edge) (t0 : TypeId) (n0 : Nat) (ps0 : Array (Nat × Operand)) (dst2 : Option Tmp) (ty2 : TypeId) (pos2 : String) (after2 : Array Edge) (g2 : Option (Nat × Bool)) (x : Operand) (xType asserted : TypeId) (commaOk : Bool) : dops P ops R (⟨dst, .buildSlice t0 n0 ps0, ty, pos, after, none⟩ :: ⟨dst2, .typeAssert x xType asserted commaOk, ty2, pos2, after2, g2⟩ :: r) f S = dop P f S ty (.buildSlice t0 n0 ps0) (dnext P ops R (⟨dst2, .typeAssert x xType asserted commaOk, ty2, pos2, after2, g2⟩ :: r) f dst) := (dops_cons ..).trans (Eq.refl _)
theorem dops_gb_typeAssert (l : List Oper) (R : Fm → St → Prop) (r : List Oper) (dst : Option Tmp) (ty : TypeId) (pos : String) (after : Array Edge) (j : Nat) (want : Bool) (t0 : TypeId) (n0 : Nat) (ps0 : Array (Nat × Operand)) (dst2 : Option Tmp) (ty2 : TypeId) (pos2 : String) (after2 : Array Edge) (g2 : Option (Nat × Bool)) (x : Operand) (xType asserted : TypeId) (commaOk : Bool) : dops P (List.toArray l) R (⟨dst, .buildSlice t0 n0 ps0, ty, pos, after, some (j, want)⟩ :: ⟨dst2, .typeAssert x xType asserted commaOk, ty2, pos2, after2, g2⟩ :: r) f S = dguardT (gtmp l j) f want (dopF P f S ty (.buildSlice t0 n0 ps0) (dnext P (List.toArray l) R (⟨dst2, .typeAssert x xType asserted commaOk, ty2, pos2, after2, g2⟩ :: r) f dst)) (dskip P (List.toArray l) R (⟨dst2, .typeAssert x xType asserted commaOk, ty2, pos2, after2, g2⟩ :: r) f dst S) := by
  rw [← gtmp_eq, dops_cons]; rfl
theorem dops_p_extract (ops : Array Oper) (R : Fm → St → Prop) (r : List Oper) (dst : Option Tmp) (ty : TypeId) (pos : String) (after : Array Edge) (tuple : Operand) (index : Nat) : dops P ops R (⟨dst, .extract tuple index, ty, pos, after, none⟩ :: r) f S = dop P f S ty (.extract tuple index) (dnext P ops R r f dst) := (dops_cons ..).trans (Eq.refl _)
theorem dops_g_extract (l : List Oper) (R : Fm → St → Prop) (r : List Oper) (dst : Option Tmp) (ty : TypeId) (pos : String) (after : Array Edge) (j : Nat) (want : Bool) (tuple : Operand) (index : Nat) : dops P (List.toArray l) R (⟨dst, .extract tuple index, ty, pos, after, some (j, want)⟩ :: r) f S = dguardT (gtmp l j) f want (dopF P f S ty (.extract tuple index) (dnext P (List.toArray l) R r f dst)) (dskip P (List.toArray l) R r f dst S) := by
  rw [← gtmp_eq, dops_cons]; rfl
theorem dops_pb_extract (ops : Array Oper) (R : Fm → St → Prop) (r : List Oper) (dst : Option Tmp) (ty : TypeId) (pos : String) (after : Array Edge) (t0 : TypeId) (n0 : Nat) (ps0 : Array (Nat × Operand)) (dst2 : Option Tmp) (ty2 : TypeId) (pos2 : String) (after2 : Array Edge) (g2 : Option (Nat × Bool)) (tuple : Operand) (index : Nat) : dops P ops R (⟨dst, .buildSlice t0 n0 ps0, ty, pos, after, none⟩ :: ⟨dst2, .extract tuple index, ty2, pos2, after2, g2⟩ :: r) f S = dop P f S ty (.buildSlice t0 n0 ps0) (dnext P ops R (⟨dst2, .extract tuple index, ty2, pos2, after2, g2⟩ :: r) f dst) := (dops_cons ..).trans (Eq.refl _)
theorem dops_gb_extract (l : List Oper) (R : Fm → St → Prop) (r : List Oper) (dst : Option Tmp) (ty : TypeId) (pos : String) (after : Array Edge) (j : Nat) (want : Bool) (t0 : TypeId) (n0 : Nat) (ps0 : Array (Nat × Operand)) (dst2 : Option Tmp) (ty2 : TypeId) (pos2 : String) (after2 : Array Edge) (g2 : Option (Nat × Bool)) (tuple : Operand) (index : Nat) : dops P (List.toArray l) R (⟨dst, .buildSlice t0 n0 ps0, ty, pos, after, some (j, want)⟩ :: ⟨dst2, .extract tuple index, ty2, pos2, after2, g2⟩ :: r) f S = dguardT (gtmp l j) f want (dopF P f S ty (.buildSlice t0 n0 ps0) (dnext P (List.toArray l) R (⟨dst2, .extract tuple index, ty2, pos2, after2, g2⟩ :: r) f dst)) (dskip P (List.toArray l) R (⟨dst2, .extract tuple index, ty2, pos2, after2, g2⟩ :: r) f dst S) := by
  rw [← gtmp_eq, dops_cons]; rfl
theorem dops_p_call (ops : Array Oper) (R : Fm → St → Prop) (r : List Oper) (dst : Option Tmp) (ty : TypeId) (pos : String) (after : Array Edge) (c : Call) : dops P ops R (⟨dst, .call c, ty, pos, after, none⟩ :: r) f S = dop P f S ty (.call c) (dnext P ops R r f dst) := (dops_cons ..).trans (Eq.refl _)
theorem dops_g_call (l : List Oper) (R : Fm → St → Prop) (r : List Oper) (dst : Option Tmp) (ty : TypeId) (pos : String) (after : Array Edge) (j : Nat) (want : Bool) (c : Call) : dops P (List.toArray l) R (⟨dst, .call c, ty, pos, after, some (j, want)⟩ :: r) f S = dguardT (gtmp l j) f want (dopF P f S ty (.call c) (dnext P (List.toArray l) R r f dst)) (dskip P (List.toArray l) R r f dst S) := by
  rw [← gtmp_eq, dops_cons]; rfl
theorem dops_pb_call (ops : Array Oper) (R : Fm → St → Prop) (r : List Oper) (dst : Option Tmp) (ty : TypeId) (pos : String) (after : Array Edge) (t0 : TypeId) (n0 : Nat) (ps0 : Array (Nat × Operand)) (dst2 : Option Tmp) (ty2 : TypeId) (pos2 : String) (after2 : Array Edge) (g2 : Option (Nat × Bool)) (c : Call) : dops P ops R (⟨dst, .buildSlice t0 n0 ps0, ty, pos, after, none⟩ :: ⟨dst2, .call c, ty2, pos2, after2, g2⟩ :: r) f S = dop P f S ty (.buildSlice t0 n0 ps0) (dnext P ops R (⟨dst2, .call c, ty2, pos2, after2, g2⟩ :: r) f dst) := (dops_cons ..).trans (Eq.refl _)
theorem dops_gb_call (l : List Oper) (R : Fm → St → Prop) (r : List Oper) (dst : Option Tmp) (ty : TypeId) (pos : String) (after : Array Edge) (j : Nat) (want : Bool) (t0 : TypeId) (n0 : Nat) (ps0 : Array (Nat × Operand)) (dst2 : Option Tmp) (ty2 : TypeId) (pos2 : String) (after2 : Array Edge) (g2 : Option (Nat × Bool)) (c : Call) : dops P (List.toArray l) R (⟨dst, .buildSlice t0 n0 ps0, ty, pos, after, some (j, want)⟩ :: ⟨dst2, .call c, ty2, pos2, after2, g2⟩ :: r) f S = dguardT (gtmp l j) f want (dopF P f S ty (.buildSlice t0 n0 ps0) (dnext P (List.toArray l) R (⟨dst2, .call c, ty2, pos2, after2, g2⟩ :: r) f dst)) (dskip P (List.toArray l) R (⟨dst2, .call c, ty2, pos2, after2, g2⟩ :: r) f dst S) := by
  rw [← gtmp_eq, dops_cons]; rfl
theorem dops_p_go (ops : Array Oper) (R : Fm → St → Prop) (r : List Oper) (dst : Option Tmp) (ty : TypeId) (pos : String) (after : Array Edge) (c : Call) : dops P ops R (⟨dst, .go c, ty, pos, after, none⟩ :: r) f S = dop P f S ty (.go c) (dnext P ops R r f dst) := (dops_cons ..).trans (Eq.refl _)
theorem dops_g_go (l : List Oper) (R : Fm → St → Prop) (r : List Oper) (dst : Option Tmp) (ty : TypeId) (pos : String) (after : Array Edge) (j : Nat) (want : Bool) (c : Call) : dops P (List.toArray l) R (⟨dst, .go c, ty, pos, after, some (j, want)⟩ :: r) f S = dguardT (gtmp l j) f want (dopF P f S ty (.go c) (dnext P (List.toArray l) R r f dst)) (dskip P (List.toArray l) R r f dst S) := by
  rw [← gtmp_eq, dops_cons]; rfl
theorem dops_pb_go (ops : Array Oper) (R : Fm → St → Prop) (r : List Oper) (dst : Option Tmp) (ty : TypeId) (pos : String) (after : Array Edge) (t0 : TypeId) (n0 : Nat) (ps0 : Array (Nat × Operand)) (dst2 : Option Tmp) (ty2 : TypeId) (pos2 : String) (after2 : Array Edge) (g2 : Option (Nat × Bool)) (c : Call) : dops P ops R (⟨dst, .buildSlice t0 n0 ps0, ty, pos, after, none⟩ :: ⟨dst2, .go c, ty2, pos2, after2, g2⟩ :: r) f S = dop P f S ty (.buildSlice t0 n0 ps0) (dnext P ops R (⟨dst2, .go c, ty2, pos2, after2, g2⟩ :: r) f dst) := (dops_cons ..).trans (Eq.refl _)
theorem dops_gb_go (l : List Oper) (R : Fm → St → Prop) (r : List Oper) (dst : Option Tmp) (ty : TypeId) (pos : String) (after : Array Edge) (j : Nat) (want : Bool) (t0 : TypeId) (n0 : Nat) (ps0 : Array (Nat × Operand)) (dst2 : Option Tmp) (ty2 : TypeId) (pos2 : String) (after2 : Array Edge) (g2 : Option (Nat × Bool)) (c : Call) : dops P (List.toArray l) R (⟨dst, .buildSlice t0 n0 ps0, ty, pos, after, some (j, want)⟩ :: ⟨dst2, .go c, ty2, pos2, after2, g2⟩ :: r) f S = dguardT (gtmp l j) f want (dopF P f S ty (.buildSlice t0 n0 ps0) (dnext P (List.toArray l) R (⟨dst2, .go c, ty2, pos2, after2, g2⟩ :: r) f dst)) (dskip P (List.toArray l) R (⟨dst2, .go c, ty2, pos2, after2, g2⟩ :: r) f dst S) := by
  rw [← gtmp_eq, dops_cons]; rfl
theorem dops_p_defer (ops : Array Oper) (R : Fm → St → Prop) (r : List Oper) (dst : Option Tmp) (ty : TypeId) (pos : String) (after : Array Edge) (c : Call) : dops P ops R (⟨dst, .defer c, ty, pos, after, none⟩ :: r) f S = dop P f S ty (.defer c) (dnext P ops R r f dst) := (dops_cons ..).trans (Eq.refl _)
theorem dops_g_defer (l : List Oper) (R : Fm → St → Prop) (r : List Oper) (dst : Option Tmp) (ty : TypeId) (pos : String) (after : Array Edge) (j : Nat) (want : Bool) (c : Call) : dops P (List.toArray l) R (⟨dst, .defer c, ty, pos, after, some (j, want)⟩ :: r) f S = dguardT (gtmp l j) f want (dopF P f S ty (.defer c) (dnext P (List.toArray l) R r f dst)) (dskip P (List.toArray l) R r f dst S) := by
  rw [← gtmp_eq, dops_cons]; rfl
theorem dops_pb_defer (ops : Array Oper) (R : Fm → St → Prop) (r : List Oper) (dst : Option Tmp) (ty : TypeId) (pos : String) (after : Array Edge) (t0 : TypeId) (n0 : Nat) (ps0 : Array (Nat × Operand)) (dst2 : Option Tmp) (ty2 : TypeId) (pos2 : String) (after2 : Array Edge) (g2 : Option (Nat × Bool)) (c : Call) : dops P ops R (⟨dst, .buildSlice t0 n0 ps0, ty, pos, after, none⟩ :: ⟨dst2, .defer c, ty2, pos2, after2, g2⟩ :: r) f S = dop P f S ty (.buildSlice t0 n0 ps0) (dnext P ops R (⟨dst2, .defer c, ty2, pos2, after2, g2⟩ :: r) f dst) := (dops_cons ..).trans (Eq.refl _)
theorem dops_gb_defer (l : List Oper) (R : Fm → St → Prop) (r : List Oper) (dst : Option Tmp) (ty : TypeId) (pos : String) (after : Array Edge) (j : Nat) (want : Bool) (t0 : TypeId) (n0 : Nat) (ps0 : Array (Nat × Operand)) (dst2 : Option Tmp) (ty2 : TypeId) (pos2 : String) (after2 : Array Edge) (g2 : Option (Nat × Bool)) (c : Call) : dops P (List.toArray l) R (⟨dst, .buildSlice t0 n0 ps0, ty, pos, after, some (j, want)⟩ :: ⟨dst2, .defer c, ty2, pos2, after2, g2⟩ :: r) f S = dguardT (gtmp l j) f want (dopF P f S ty (.buildSlice t0 n0 ps0) (dnext P (List.toArray l) R (⟨dst2, .defer c, ty2, pos2, after2, g2⟩ :: r) f dst)) (dskip P (List.toArray l) R (⟨dst2, .defer c, ty2, pos2, after2, g2⟩ :: r) f dst S) := by
  rw [← gtmp_eq, dops_cons]; rfl
theorem dops_p_panic (ops : Array Oper) (R : Fm → St → Prop) (r : List Oper) (dst : Option Tmp) (ty : TypeId) (pos : String) (after : Array Edge) (x : Operand) : dops P ops R (⟨dst, .panic x, ty, pos, after, none⟩ :: r) f S = dop P f S ty (.panic x) (dnext P ops R r f dst) := (dops_cons ..).trans (Eq.refl _)
theorem dops_g_panic (l : List Oper) (R : Fm → St → Prop) (r : List Oper) (dst : Option Tmp) (ty : TypeId) (pos : String) (after : Array Edge) (j : Nat) (want : Bool) (x : Operand) : dops P (List.toArray l) R (⟨dst, .panic x, ty, pos, after, some (j, want)⟩ :: r) f S = dguardT (gtmp l j) f want (dopF P f S ty (.panic x) (dnext P (List.toArray l) R r f dst)) (dskip P (List.toArray l) R r f dst S) := by
  rw [← gtmp_eq, dops_cons]; rfl
theorem dops_pb_panic (ops : Array Oper) (R : Fm → St → Prop) (r : List Oper) (dst : Option Tmp) (ty : TypeId) (pos : String) (after : Array Edge) (t0 : TypeId) (n0 : Nat) (ps0 : Array (Nat × Operand)) (dst2 : Option Tmp) (ty2 : TypeId) (pos2 : String) (after2 : Array Edge) (g2 : Option (Nat × Bool)) (x : Operand) : dops P ops R (⟨dst, .buildSlice t0 n0 ps0, ty, pos, after, none⟩ :: ⟨dst2, .panic x, ty2, pos2, after2, g2⟩ :: r) f S = dop P f S ty (.buildSlice t0 n0 ps0) (dnext P ops R (⟨dst2, .panic x, ty2, pos2, after2, g2⟩ :: r) f dst) := (dops_cons ..).trans (Eq.refl _)
theorem dops_gb_panic (l : List Oper) (R : Fm → St → Prop) (r : List Oper) (dst : Option Tmp) (ty : TypeId) (pos : String) (after : Array Edge) (j : Nat) (want : Bool) (t0 : TypeId) (n0 : Nat) (ps0 : Array (Nat × Operand)) (dst2 : Option Tmp) (ty2 : TypeId) (pos2 : String) (after2 : Array Edge) (g2 : Option (Nat × Bool)) (x : Operand) : dops P (List.toArray l) R (⟨dst, .buildSlice t0 n0 ps0, ty, pos, after, some (j, want)⟩ :: ⟨dst2, .panic x, ty2, pos2, after2, g2⟩ :: r) f S = dguardT (gtmp l j) f want (dopF P f S ty (.buildSlice t0 n0 ps0) (dnext P (List.toArray l) R (⟨dst2, .panic x, ty2, pos2, after2, g2⟩ :: r) f dst)) (dskip P (List.toArray l) R (⟨dst2, .panic x, ty2, pos2, after2, g2⟩ :: r) f dst S) := by
  rw [← gtmp_eq, dops_cons]; rfl
theorem dops_p_send (ops : Array Oper) (R : Fm → St → Prop) (r : List Oper) (dst : Option Tmp) (ty : TypeId) (pos : String) (after : Array Edge) (chan x : Operand) : dops P ops R (⟨dst, .send chan x, ty, pos, after, none⟩ :: r) f S = dop P f S ty (.send chan x) (dnext P ops R r f dst) := (dops_cons ..).trans (Eq.refl _)
theorem dops_g_send (l : List Oper) (R : Fm → St → Prop) (r : List Oper) (dst : Option Tmp) (ty : TypeId) (pos : String) (after : Array Edge) (j : Nat) (want : Bool) (chan x : Operand) : dops P (List.toArray l) R (⟨dst, .send chan x, ty, pos, after, some (j, want)⟩ :: r) f S = dguardT (gtmp l j) f want (dopF P f S ty (.send chan x) (dnext P (List.toArray l) R r f dst)) (dskip P (List.toArray l) R r f dst S) := by
  rw [← gtmp_eq, dops_cons]; rfl
theorem dops_pb_send (ops : Array Oper) (R : Fm → St → Prop) (r : List Oper) (dst : Option Tmp) (ty : TypeId) (pos : String) (after : Array Edge) (t0 : TypeId) (n0 : Nat) (ps0 : Array (Nat × Operand)) (dst2 : Option Tmp) (ty2 : TypeId) (pos2 : String) (after2 : Array Edge) (g2 : Option (Nat × Bool)) (chan x : Operand) : dops P ops R (⟨dst, .buildSlice t0 n0 ps0, ty, pos, after, none⟩ :: ⟨dst2, .send chan x, ty2, pos2, after2, g2⟩ :: r) f S = dop P f S ty (.buildSlice t0 n0 ps0) (dnext P ops R (⟨dst2, .send chan x, ty2, pos2, after2, g2⟩ :: r) f dst) := (dops_cons ..).trans (Eq.refl _)
theorem dops_gb_send (l : List Oper) (R : Fm → St → Prop) (r : List Oper) (dst : Option Tmp) (ty : TypeId) (pos : String) (after : Array Edge) (j : Nat) (want : Bool) (t0 : TypeId) (n0 : Nat) (ps0 : Array (Nat × Operand)) (dst2 : Option Tmp) (ty2 : TypeId) (pos2 : String) (after2 : Array Edge) (g2 : Option (Nat × Bool)) (chan x : Operand) : dops P (List.toArray l) R (⟨dst, .buildSlice t0 n0 ps0, ty, pos, after, some (j, want)⟩ :: ⟨dst2, .send chan x, ty2, pos2, after2, g2⟩ :: r) f S = dguardT (gtmp l j) f want (dopF P f S ty (.buildSlice t0 n0 ps0) (dnext P (List.toArray l) R (⟨dst2, .send chan x, ty2, pos2, after2, g2⟩ :: r) f dst)) (dskip P (List.toArray l) R (⟨dst2, .send chan x, ty2, pos2, after2, g2⟩ :: r) f dst S) := by
  rw [← gtmp_eq, dops_cons]; rfl
theorem dops_p_recv (ops : Array Oper) (R : Fm → St → Prop) (r : List Oper) (dst : Option Tmp) (ty : TypeId) (pos : String) (after : Array Edge) (chanType : TypeId) (chan : Operand) (commaOk : Bool) : dops P ops R (⟨dst, .recv chanType chan commaOk, ty, pos, after, none⟩ :: r) f S = dop P f S ty (.recv chanType chan commaOk) (dnext P ops R r f dst) := (dops_cons ..).trans (Eq.refl _)
theorem dops_g_recv (l : List Oper) (R : Fm → St → Prop) (r : List Oper) (dst : Option Tmp) (ty : TypeId) (pos : String) (after : Array Edge) (j : Nat) (want : Bool) (chanType : TypeId) (chan : Operand) (commaOk : Bool) : dops P (List.toArray l) R (⟨dst, .recv chanType chan commaOk, ty, pos, after, some (j, want)⟩ :: r) f S = dguardT (gtmp l j) f want (dopF P f S ty (.recv chanType chan commaOk) (dnext P (List.toArray l) R r f dst)) (dskip P (List.toArray l) R r f dst S) := by
  rw [← gtmp_eq, dops_cons]; rfl
theorem dops_pb_recv (ops : Array Oper) (R : Fm → St → Prop) (r : List Oper) (dst : Option Tmp) (ty : TypeId) (pos : String) (after : Array Edge) (t0 : TypeId) (n0 : Nat) (ps0 : Array (Nat × Operand)) (dst2 : Option Tmp) (ty2 : TypeId) (pos2 : String) (after2 : Array Edge) (g2 : Option (Nat × Bool)) (chanType : TypeId) (chan : Operand) (commaOk : Bool) : dops P ops R (⟨dst, .buildSlice t0 n0 ps0, ty, pos, after, none⟩ :: ⟨dst2, .recv chanType chan commaOk, ty2, pos2, after2, g2⟩ :: r) f S = dop P f S ty (.buildSlice t0 n0 ps0) (dnext P ops R (⟨dst2, .recv chanType chan commaOk, ty2, pos2, after2, g2⟩ :: r) f dst) := (dops_cons ..).trans (Eq.refl _)
theorem dops_gb_recv (l : List Oper) (R : Fm → St → Prop) (r : List Oper) (dst : Option Tmp) (ty : TypeId) (pos : String) (after : Array Edge) (j : Nat) (want : Bool) (t0 : TypeId) (n0 : Nat) (ps0 : Array (Nat × Operand)) (dst2 : Option Tmp) (ty2 : TypeId) (pos2 : String) (after2 : Array Edge) (g2 : Option (Nat × Bool)) (chanType : TypeId) (chan : Operand) (commaOk : Bool) : dops P (List.toArray l) R (⟨dst, .buildSlice t0 n0 ps0, ty, pos, after, some (j, want)⟩ :: ⟨dst2, .recv chanType chan commaOk, ty2, pos2, after2, g2⟩ :: r) f S = dguardT (gtmp l j) f want (dopF P f S ty (.buildSlice t0 n0 ps0) (dnext P (List.toArray l) R (⟨dst2, .recv chanType chan commaOk, ty2, pos2, after2, g2⟩ :: r) f dst)) (dskip P (List.toArray l) R (⟨dst2, .recv chanType chan commaOk, ty2, pos2, after2, g2⟩ :: r) f dst S) := by
  rw [← gtmp_eq, dops_cons]; rfl
theorem dops_p_select (ops : Array Oper) (R : Fm → St → Prop) (r : List Oper) (dst : Option Tmp) (ty : TypeId) (pos : String) (after : Array Edge) (cases : Array SelectCase) (blocking : Bool) : dops P ops R (⟨dst, .select cases blocking, ty, pos, after, none⟩ :: r) f S = dop P f S ty (.select cases blocking) (dnext P ops R r f dst) := (dops_cons ..).trans (Eq.refl _)
theorem dops_g_select (l : List Oper) (R : Fm → St → Prop) (r : List Oper) (dst : Option Tmp) (ty : TypeId) (pos : String) (after : Array Edge) (j : Nat) (want : Bool) (cases : Array SelectCase) (blocking : Bool) : dops P (List.toArray l) R (⟨dst, .select cases blocking, ty, pos, after, some (j, want)⟩ :: r) f S = dguardT (gtmp l j) f want (dopF P f S ty (.select cases blocking) (dnext P (List.toArray l) R r f dst)) (dskip P (List.toArray l) R r f dst S) := by
  rw [← gtmp_eq, dops_cons]; rfl
theorem dops_pb_select (ops : Array Oper) (R : Fm → St → Prop) (r : List Oper) (dst : Option Tmp) (ty : TypeId) (pos : String) (after : Array Edge) (t0 : TypeId) (n0 : Nat) (ps0 : Array (Nat × Operand)) (dst2 : Option Tmp) (ty2 : TypeId) (pos2 : String) (after2 : Array Edge) (g2 : Option (Nat × Bool)) (cases : Array SelectCase) (blocking : Bool) : dops P ops R (⟨dst, .buildSlice t0 n0 ps0, ty, pos, after, none⟩ :: ⟨dst2, .select cases blocking, ty2, pos2, after2, g2⟩ :: r) f S = dop P f S ty (.buildSlice t0 n0 ps0) (dnext P ops R (⟨dst2, .select cases blocking, ty2, pos2, after2, g2⟩ :: r) f dst) := (dops_cons ..).trans (Eq.refl _)
theorem dops_gb_select (l : List Oper) (R : Fm → St → Prop) (r : List Oper) (dst : Option Tmp) (ty : TypeId) (pos : String) (after : Array Edge) (j : Nat) (want : Bool) (t0 : TypeId) (n0 : Nat) (ps0 : Array (Nat × Operand)) (dst2 : Option Tmp) (ty2 : TypeId) (pos2 : String) (after2 : Array Edge) (g2 : Option (Nat × Bool)) (cases : Array SelectCase) (blocking : Bool) : dops P (List.toArray l) R (⟨dst, .buildSlice t0 n0 ps0, ty, pos, after, some (j, want)⟩ :: ⟨dst2, .select cases blocking, ty2, pos2, after2, g2⟩ :: r) f S = dguardT (gtmp l j) f want (dopF P f S ty (.buildSlice t0 n0 ps0) (dnext P (List.toArray l) R (⟨dst2, .select cases blocking, ty2, pos2, after2, g2⟩ :: r) f dst)) (dskip P (List.toArray l) R (⟨dst2, .select cases blocking, ty2, pos2, after2, g2⟩ :: r) f dst S) := by
  rw [← gtmp_eq, dops_cons]; rfl
theorem dops_pb_nil (ops : Array Oper) (R : Fm → St → Prop) (dst : Option Tmp) (ty : TypeId) (pos : String) (after : Array Edge) (t0 : TypeId) (n0 : Nat) (ps0 : Array (Nat × Operand)) : dops P ops R (⟨dst, .buildSlice t0 n0 ps0, ty, pos, after, none⟩ :: []) f S = dop P f S ty (.buildSlice t0 n0 ps0) (dnext P ops R [] f dst) := (dops_cons ..).trans (Eq.refl _)
theorem dops_gb_nil (l : List Oper) (R : Fm → St → Prop) (dst : Option Tmp) (ty : TypeId) (pos : String) (after : Array Edge) (j : Nat) (want : Bool) (t0 : TypeId) (n0 : Nat) (ps0 : Array (Nat × Operand)) : dops P (List.toArray l) R (⟨dst, .buildSlice t0 n0 ps0, ty, pos, after, some (j, want)⟩ :: []) f S = dguardT (gtmp l j) f want (dopF P f S ty (.buildSlice t0 n0 ps0) (dnext P (List.toArray l) R [] f dst)) (dskip P (List.toArray l) R [] f dst S) := by
  rw [← gtmp_eq, dops_cons]; rfl
theorem dops_pb_conv (ops : Array Oper) (R : Fm → St → Prop) (r : List Oper) (dst : Option Tmp) (ty : TypeId) (pos : String) (after : Array Edge) (t0 : TypeId) (n0 : Nat) (ps0 : Array (Nat × Operand)) (dst2 : Option Tmp) (ty2 : TypeId) (pos2 : String) (after2 : Array Edge) (g2 : Option (Nat × Bool)) (src d' : TypeId) (x : Operand) (hne : Nat.beq src d' = false) : dops P ops R (⟨dst, .buildSlice t0 n0 ps0, ty, pos, after, none⟩ :: ⟨dst2, .convert src d' x, ty2, pos2, after2, g2⟩ :: r) f S = dop P f S ty (.buildSlice t0 n0 ps0) (dnext P ops R (⟨dst2, .convert src d' x, ty2, pos2, after2, g2⟩ :: r) f dst) := by
  rw [dops_cons]
  simp only [dwanted, dbs, hne, cond_false, dnext]
  rfl
theorem dops_gb_conv (l : List Oper) (R : Fm → St → Prop) (r : List Oper) (dst : Option Tmp) (ty : TypeId) (pos : String) (after : Array Edge) (j : Nat) (want : Bool) (t0 : TypeId) (n0 : Nat) (ps0 : Array (Nat × Operand)) (dst2 : Option Tmp) (ty2 : TypeId) (pos2 : String) (after2 : Array Edge) (g2 : Option (Nat × Bool)) (src d' : TypeId) (x : Operand) (hne : Nat.beq src d' = false) : dops P (List.toArray l) R (⟨dst, .buildSlice t0 n0 ps0, ty, pos, after, some (j, want)⟩ :: ⟨dst2, .convert src d' x, ty2, pos2, after2, g2⟩ :: r) f S = dguardT (gtmp l j) f want (dopF P f S ty (.buildSlice t0 n0 ps0) (dnext P (List.toArray l) R (⟨dst2, .convert src d' x, ty2, pos2, after2, g2⟩ :: r) f dst)) (dskip P (List.toArray l) R (⟨dst2, .convert src d' x, ty2, pos2, after2, g2⟩ :: r) f dst S) := by
  rw [← gtmp_eq, dops_cons]
  simp only [dbs, hne, cond_false]
  rfl
def onValS (o : Option (Prop × D)) (K : D → St → Prop) (S : St) : Prop := match o with
  | some (c, d) => c ∧ K d S
  | none => False
theorem onValS_some (c : Prop) (d : D) (K : D → St → Prop) : onValS (some (c, d)) K S = (c ∧ K d S) := Eq.trans (Eq.refl _) (Eq.refl _)
theorem onVal_some (c : Prop) (d : D) (K : D → Prop) : onVal (some (c, d)) K = (c ∧ K d) := Eq.trans (Eq.refl _) (Eq.refl _)
theorem dop_move {ty : TypeId} {K : D → St → Prop} (x : Operand) : dop P f S ty (.move x) K = onValS (dval P f S ty (.move x)) K S := by
  unfold dop; exact Eq.trans (Eq.refl _) (Eq.refl _)
theorem dop_assign {ty : TypeId} {K : D → St → Prop} (x : Operand) : dop P f S ty (.assign x) K = onValS (dval P f S ty (.assign x)) K S := by
  unfold dop; exact Eq.trans (Eq.refl _) (Eq.refl _)
theorem dop_pick {ty : TypeId} {K : D → St → Prop} (c x y : Operand) : dop P f S ty (.pick c x y) K = onValS (dval P f S ty (.pick c x y)) K S := by
  unfold dop; exact Eq.trans (Eq.refl _) (Eq.refl _)
theorem dop_load {ty : TypeId} {K : D → St → Prop} (t : TypeId) (x : Operand) : dop P f S ty (.load t x) K = onValS (dval P f S ty (.load t x)) K S := by
  unfold dop; exact Eq.trans (Eq.refl _) (Eq.refl _)
theorem dop_fieldAddr {ty : TypeId} {K : D → St → Prop} (t : TypeId) (x : Operand) (i : Nat) : dop P f S ty (.fieldAddr t x i) K = onValS (dval P f S ty (.fieldAddr t x i)) K S := by
  unfold dop; exact Eq.trans (Eq.refl _) (Eq.refl _)
theorem dop_field {ty : TypeId} {K : D → St → Prop} (t : TypeId) (x : Operand) (i : Nat) : dop P f S ty (.field t x i) K = onValS (dval P f S ty (.field t x i)) K S := by
  unfold dop; exact Eq.trans (Eq.refl _) (Eq.refl _)
theorem dop_indexAddr {ty : TypeId} {K : D → St → Prop} (t : TypeId) (x i : Operand) : dop P f S ty (.indexAddr t x i) K = onValS (dval P f S ty (.indexAddr t x i)) K S := by
  unfold dop; exact Eq.trans (Eq.refl _) (Eq.refl _)
theorem dop_index {ty : TypeId} {K : D → St → Prop} (t : TypeId) (x i : Operand) : dop P f S ty (.index t x i) K = onValS (dval P f S ty (.index t x i)) K S := by
  unfold dop; exact Eq.trans (Eq.refl _) (Eq.refl _)
theorem dop_extract {ty : TypeId} {K : D → St → Prop} (x : Operand) (i : Nat) : dop P f S ty (.extract x i) K = onValS (dval P f S ty (.extract x i)) K S := by
  unfold dop; exact Eq.trans (Eq.refl _) (Eq.refl _)
theorem dop_makeFunc {ty : TypeId} {K : D → St → Prop} (fn : Fn) (fs cs : Array Operand) : dop P f S ty (.makeFunc fn fs cs) K = onValS (dval P f S ty (.makeFunc fn fs cs)) K S := by
  unfold dop; exact Eq.trans (Eq.refl _) (Eq.refl _)
theorem dop_makeInterface {ty : TypeId} {K : D → St → Prop} (t : TypeId) (x : Operand) : dop P f S ty (.makeInterface t x) K = onValS (dval P f S ty (.makeInterface t x)) K S := by
  unfold dop; exact Eq.trans (Eq.refl _) (Eq.refl _)
theorem dop_nilCheck {ty : TypeId} {K : D → St → Prop} (x : Operand) : dop P f S ty (.nilCheck x) K = onValS (dval P f S ty (.nilCheck x)) K S := by
  unfold dop; exact Eq.trans (Eq.refl _) (Eq.refl _)
theorem dop_slice {ty : TypeId} {K : D → St → Prop} (t : TypeId) (x : Operand) (lo hi mx : Option Operand) : dop P f S ty (.slice t x lo hi mx) K = onValS (dval P f S ty (.slice t x lo hi mx)) K S := by
  unfold dop; exact Eq.trans (Eq.refl _) (Eq.refl _)
theorem dop_binOp {ty : TypeId} {K : D → St → Prop} (op : BinOp) (t : TypeId) (x y : Operand) (u : TypeId) : dop P f S ty (.binOp op t x y u) K = onValS (dval P f S ty (.binOp op t x y u)) K S := by
  unfold dop; exact Eq.trans (Eq.refl _) (Eq.refl _)
theorem dop_unOp {ty : TypeId} {K : D → St → Prop} (op : UnOp) (t : TypeId) (x : Operand) : dop P f S ty (.unOp op t x) K = onValS (dval P f S ty (.unOp op t x)) K S := by
  unfold dop; exact Eq.trans (Eq.refl _) (Eq.refl _)
theorem dop_convert {ty : TypeId} {K : D → St → Prop} (s t : TypeId) (x : Operand) : dop P f S ty (.convert s t x) K = onValS (orD (dnew P f S (.convert s t x)) (dval P f S ty (.convert s t x))) K S := by
  unfold dop; exact Eq.trans (Eq.refl _) (Eq.refl _)
theorem dop_b_len {ty : TypeId} {K : D → St → Prop} (args : Array Operand) (ts : Array TypeId) : dop P f S ty (.call ⟨.builtin .len, args, ts⟩) K = onValS (dval P f S ty (.call ⟨.builtin .len, args, ts⟩)) K S := by
  unfold dop; exact Eq.trans (Eq.refl _) (Eq.refl _)
theorem dop_b_cap {ty : TypeId} {K : D → St → Prop} (args : Array Operand) (ts : Array TypeId) : dop P f S ty (.call ⟨.builtin .cap, args, ts⟩) K = onValS (dval P f S ty (.call ⟨.builtin .cap, args, ts⟩)) K S := by
  unfold dop; exact Eq.trans (Eq.refl _) (Eq.refl _)
theorem dop_b_min {ty : TypeId} {K : D → St → Prop} (args : Array Operand) (ts : Array TypeId) : dop P f S ty (.call ⟨.builtin .min, args, ts⟩) K = onValS (dval P f S ty (.call ⟨.builtin .min, args, ts⟩)) K S := by
  unfold dop; exact Eq.trans (Eq.refl _) (Eq.refl _)
theorem dop_b_max {ty : TypeId} {K : D → St → Prop} (args : Array Operand) (ts : Array TypeId) : dop P f S ty (.call ⟨.builtin .max, args, ts⟩) K = onValS (dval P f S ty (.call ⟨.builtin .max, args, ts⟩)) K S := by
  unfold dop; exact Eq.trans (Eq.refl _) (Eq.refl _)
theorem dop_buildSlice {ty : TypeId} {K : D → St → Prop} (t : TypeId) (n : Nat) (ps : Array (Nat × Operand)) : dop P f S ty (.buildSlice t n ps) K = onValS (dnew P f S (.buildSlice t n ps)) K S := by
  unfold dop; exact Eq.trans (Eq.refl _) (Eq.refl _)
theorem dop_build {ty : TypeId} {K : D → St → Prop} (t : TypeId) (ps : Array (Nat × Operand)) : dop P f S ty (.build t ps) K = onValS (dnew P f S (.build t ps)) K S := by
  unfold dop; exact Eq.trans (Eq.refl _) (Eq.refl _)
theorem dop_alloc {ty : TypeId} {K : D → St → Prop} (t : TypeId) : dop P f S ty (.alloc t) K = (zeroOk P t = true ∧ K (.loc S.next 0) (S.add (.box t (zeroD P t)))) := Eq.trans (Eq.refl _) (Eq.refl _)
theorem dop_box {ty : TypeId} {K : D → St → Prop} (t : TypeId) (x : Operand) : dop P f S ty (.box t x) K = ((ev f x).okCell = true ∧ K (.loc S.next 0) (S.add (.box t (ev f x).cells))) := Eq.trans (Eq.refl _) (Eq.refl _)
def dstore (P : Program) (S : St) (t : TypeId) (x y : D) (K : D → St → Prop) : Prop := match x with
  | .loc k off => match S.ob k with
    | some (.box t' cs) => y.okCell = true ∧ (P.info? t).isSome = true ∧ y.width = szOf P t ∧ off + szOf P t ≤ cs.length ∧ K undefD (S.set k (.box t' (splice cs off y.cells)))
    | _ => False
  | _ => False
theorem dop_store {ty : TypeId} {K : D → St → Prop} (t : TypeId) (x y : Operand) : dop P f S ty (.store t x y) K = dstore P S t (ev f x) (ev f y) K := Eq.trans (Eq.refl _) (Eq.refl _)
def dcall (P : Program) (S : St) (x : D) (args : List D) (K : D → St → Prop) : Prop := match x with
  | .fn (.func g) fs cs => DCalls P g (fs ++ args ++ cs) S K
  | _ => False
theorem dcall_fn (g : FuncId) (fs args cs : List D) (K : D → St → Prop) : dcall P S (.fn (.func g) fs cs) args K = DCalls P g (fs ++ args ++ cs) S K := Eq.trans (Eq.refl _) (Eq.refl _)
theorem dop_call {ty : TypeId} {K : D → St → Prop} (x : Operand) (args : List Operand) (ts : Array TypeId) : dop P f S ty (.call ⟨.value x, List.toArray args, ts⟩) K = dcall P S (ev f x) (args.map (ev f)) K := Eq.trans (Eq.refl _) (Eq.refl _)
def dappend (P : Program) (S : St) (t tx : TypeId) (x y : D) (K : D → St → Prop) : Prop := match x, y with
  | .sl own es, .sl _ es2 => match elT P t with
    | some e => (elT P tx).isSome = true ∧ zeroT P e = true ∧ (∀ d ∈ es, d.width = szOf P e) ∧ (∀ d ∈ es2, d.width = szOf P e) ∧ (match own with | .full => True | .row g => S.ob g = some (.row e es.length) | .no => False) ∧ es.length + es2.length ≤ 140737488355328 ∧ (es.length + es2.length) * bytesOf P e ≤ 140737488355328 ∧ K (.sl (.row S.next) (es ++ es2)) (S.grow own e (es.length + es2.length))
    | none => False
  | _, _ => False
def dapp (P : Program) (S : St) (t tx : TypeId) (ty : TypeId) (x y : D) (K : D → St → Prop) : Prop := match x with
  | .win k off n c => DRun P (fun vs => Builtin.append_ #[t, tx] ty vs.toArray) [.win k off n c, y] S K
  | x => dappend P S t tx x y K ∨ match x, y with
    | .sl own es, .sl o2 es2 => match elT P t with
      | some e => appWin P S e tx own es es2 K ∨ DRun P (fun vs => Builtin.append_ #[t, tx] ty vs.toArray) [.sl own es, .sl o2 es2] S K
      | none => False
    | .sl own es, .win k off n c => DRun P (fun vs => Builtin.append_ #[t, tx] ty vs.toArray) [.sl own es, .win k off n c] S K
    | .sl own es, .v u => DRun P (fun vs => Builtin.append_ #[t, tx] ty vs.toArray) [.sl own es, .v u] S K
    | _, _ => False
theorem dapp_srcW {t tx ty : TypeId} {own : Own} {es : List D} {k off n c : Nat} {K : D → St → Prop} (h : DRun P (fun vs => Builtin.append_ #[t, tx] ty vs.toArray) [.sl own es, .win k off n c] S K) : dapp P S t tx ty (.sl own es) (.win k off n c) K := .inr h
theorem dapp_row {t tx ty : TypeId} {own : Own} {es : List D} {y : D} {K : D → St → Prop} (h : dappend P S t tx (.sl own es) y K) : dapp P S t tx ty (.sl own es) y K := .inl h
theorem dapp_step {t tx ty : TypeId} {own o2 : Own} {es es2 : List D} {e : TypeId} {K : D → St → Prop} (he : elT P t = some e) (h : DRun P (fun vs => Builtin.append_ #[t, tx] ty vs.toArray) [.sl own es, .sl o2 es2] S K) : dapp P S t tx ty (.sl own es) (.sl o2 es2) K := .inr (by simp only [he]; exact .inr h)
theorem dop_append {ty : TypeId} {K : D → St → Prop} (x y : Operand) (t tx : TypeId) : dop P f S ty (.call ⟨.builtin .append, #[x, y], #[t, tx]⟩) K = dapp P S t tx ty (ev f x) (ev f y) K := by
  simp only [dop, List.map_cons, List.map_nil]
  generalize ev f x = a
  generalize ev f y = b
  cases a <;> first | rfl | (simp only [dapp, dappend]; cases he : elT P t <;> cases b <;> (try simp only [he, or_false, false_or, or_self]) <;> rfl)
def dclear (P : Program) (ts : Array TypeId) (ty : TypeId) (x : D) (S : St) (K : D → St → Prop) : Prop := DRun P (fun vs => Builtin.clear_ ts ty vs.toArray) [x] S K
theorem dop_clear {ty : TypeId} {K : D → St → Prop} (x : Operand) (ts : Array TypeId) : dop P f S ty (.call ⟨.builtin .clear, #[x], ts⟩) K = dclear P ts ty (ev f x) S K := Eq.trans (Eq.refl _) (Eq.refl _)
theorem list_of_array {α : Type} (l : List α) : (List.toArray l).toList = l := Eq.trans (Eq.refl _) (Eq.refl _)
theorem add_next (S : St) (o : Ob) : (S.add o).next = S.next + 1 := Eq.trans (Eq.refl _) (Eq.refl _)
theorem add_ob (S : St) (o : Ob) (k : Nat) : (S.add o).ob k = if k = S.next then some o else S.ob k := Eq.trans (Eq.refl _) (Eq.refl _)
theorem set_next (S : St) (k : Nat) (o : Ob) : (S.set k o).next = S.next := Eq.trans (Eq.refl _) (Eq.refl _)
theorem set_ob (S : St) (k j : Nat) (o : Ob) : (S.set k o).ob j = if j = k then some o else S.ob j := Eq.trans (Eq.refl _) (Eq.refl _)
theorem grow_next (S : St) (own : Own) (e : TypeId) (n : Nat) : (S.grow own e n).next = S.next + 1 := by cases own <;> rfl
theorem grow_full_ob (S : St) (e : TypeId) (n k : Nat) : (S.grow .full e n).ob k = if k = S.next then some (.row e n) else S.ob k := Eq.trans (Eq.refl _) (Eq.refl _)
theorem grow_row_ob (S : St) (g : Nat) (e : TypeId) (n k : Nat) : (S.grow (.row g) e n).ob k = if k = S.next then some (.row e n) else if k = g then none else S.ob k := Eq.trans (Eq.refl _) (Eq.refl _)
theorem getD_map {α : Type} (g : α → D) (l : List α) (i : Nat) (h : i < l.length) : (l.map g).getD i undefD = g l[i] := by simp [List.getD, h]
/-! Ends. -/
theorem pfin_ret (t : Tmp) (S' : St) (d : D) : DQ.pfin P [.tmp t] S d .ret f S' = PFin S S' (f t) d := by
  simp [DQ.pfin, dresL, dres, onVal, one]
theorem pfin_normal (t : Tmp) (S' : St) (d : D) : DQ.pfin P [.tmp t] S d .normal f S' = PFin S S' (f t) d := by
  simp [DQ.pfin, dresL, dres, onVal, one]
theorem pfin_ret2 (t u : Tmp) (S' : St) (d : D) : DQ.pfin P [.tmp t, .tmp u] S d .ret f S' = PFin S S' (.tup [f t, f u]) d := by
  simp [DQ.pfin, dresL, dres, onVal, one]
theorem pfin_normal2 (t u : Tmp) (S' : St) (d : D) : DQ.pfin P [.tmp t, .tmp u] S d .normal f S' = PFin S S' (.tup [f t, f u]) d := by
  simp [DQ.pfin, dresL, dres, onVal, one]
end

/-! A region that draws its order. -/
section
variable {P : Program} {f : Fm} {S : St}
def hnext (P : Program) (ops : Array Oper) (S : St) (R : Fm → St → Prop) (r : List Oper) (f : Fm) (dst : Option Tmp) (u : Option Ob) (d : D) : Prop := dhead P ops S R r (put f dst d) u
theorem hnext_eq (ops : Array Oper) (R : Fm → St → Prop) (r : List Oper) (dst : Option Tmp) (u : Option Ob) (d : D) : hnext P ops S R r f dst u d = dhead P ops S R r (put f dst d) u := Eq.trans (Eq.refl _) (Eq.refl _)
def hnextN (P : Program) (ops : Array Oper) (S : St) (R : Fm → St → Prop) (r : List Oper) (f : Fm) (dst : Option Tmp) (d : D) (u : Option Ob) : Prop := dhead P ops S R r (put f dst d) u
theorem hnextN_eq (ops : Array Oper) (R : Fm → St → Prop) (r : List Oper) (dst : Option Tmp) (u : Option Ob) (d : D) : hnextN P ops S R r f dst d u = dhead P ops S R r (put f dst d) u := Eq.trans (Eq.refl _) (Eq.refl _)
def hAt (K : D → Option Ob → Prop) (u : Option Ob) (d : D) : Prop := K d u
theorem hAt_eq (K : D → Option Ob → Prop) (u : Option Ob) (d : D) : hAt K u d = K d u := Eq.trans (Eq.refl _) (Eq.refl _)
def hskip (P : Program) (ops : Array Oper) (S : St) (R : Fm → St → Prop) (r : List Oper) (f : Fm) (dst : Option Tmp) (u : Option Ob) : Prop := dhead P ops S R r (put f dst undefD) u
def dquietF (P : Program) (f : Fm) (S : St) (ty : TypeId) (op : Op) (K : D → Prop) : Prop := dquiet P f S ty op K
def dtail (P : Program) (l : List Oper) (R : Fm → St → Prop) (n : Nat) (f : Fm) (S : St) : Prop := dops P (List.toArray l) R (l.drop n) f S
theorem dtail_eq (l : List Oper) (R : Fm → St → Prop) (n : Nat) : dtail P l R n f S = dops P (List.toArray l) R (l.drop n) f S := Eq.trans (Eq.refl _) (Eq.refl _)
theorem ddraw_mk (n : Nat) {l : List Oper} {R : Fm → St → Prop} (h : drawOk l n = true) (k : dhead P (List.toArray (l.take n)) S (dtail P l R n) (l.take n) f none) : ddraw P l R f S := .inl ⟨n, h, k⟩
theorem ddraw_any (Zs : St → Prop) (n : Nat) {l : List Oper} {R : Fm → St → Prop} (hz : Zs S) (h : (n == l.length || heldTailB l n) = true) (k : sAny P .any (List.toArray (l.take n)) Zs (dtail P l R n) (List.toArray (l.take n)).size (Array.replicate (List.toArray (l.take n)).size false) f S) : ddraw P l R f S := .inr ⟨Zs, n, hz, h, k⟩
theorem after_none (S : St) : after S none = S := Eq.trans (Eq.refl _) (Eq.refl _)
theorem after_some (S : St) (b : Ob) : after S (some b) = S.add b := Eq.trans (Eq.refl _) (Eq.refl _)
theorem dhead_nil (ops : Array Oper) (R : Fm → St → Prop) (u : Option Ob) : dhead P ops S R [] f u = R f (after S u) := Eq.trans (Eq.refl _) (Eq.refl _)
theorem dhead_plain (ops : Array Oper) (R : Fm → St → Prop) (r : List Oper) (dst : Option Tmp) (op : Op) (ty : TypeId) (pos : String) (aft : Array Edge) (u : Option Ob) : dhead P ops S R (⟨dst, op, ty, pos, aft, none⟩ :: r) f u = hop P f S u ty op (hnextN P ops S R r f dst) := Eq.trans (Eq.refl _) (Eq.refl _)
theorem dhead_guard (l : List Oper) (R : Fm → St → Prop) (r : List Oper) (dst : Option Tmp) (op : Op) (ty : TypeId) (pos : String) (aft : Array Edge) (j : Nat) (want : Bool) (u : Option Ob) :
    dhead P (List.toArray l) S R (⟨dst, op, ty, pos, aft, some (j, want)⟩ :: r) f u = dguardT (gtmp l j) f want (dquietF P f S ty op (hnext P (List.toArray l) S R r f dst u)) (hskip P (List.toArray l) S R r f dst u) := by
  rw [← gtmp_eq]; rfl
theorem hop_alloc {ty : TypeId} {K : D → Option Ob → Prop} (t : TypeId) : hop P f S none ty (.alloc t) K = (zeroOk P t = true ∧ K (.loc S.next 0) (some (.box t (zeroD P t)))) := by simp [hop]
theorem hop_box {ty : TypeId} {K : D → Option Ob → Prop} (t : TypeId) (x : Operand) : hop P f S none ty (.box t x) K = ((ev f x).okCell = true ∧ K (.loc S.next 0) (some (.box t (ev f x).cells))) := by simp [hop]
theorem hop_call {ty : TypeId} {K : D → Option Ob → Prop} {uo : Option Ob} (x : Operand) (args : List Operand) (ts : Array TypeId) : hop P f S uo ty (.call ⟨.value x, List.toArray args, ts⟩) K = dquiet P f S ty (.call ⟨.value x, List.toArray args, ts⟩) (hAt K uo) := Eq.trans (Eq.refl _) (Eq.refl _)
theorem hop_append {ty : TypeId} {K : D → Option Ob → Prop} {uo : Option Ob} (args : Array Operand) (ts : Array TypeId) : hop P f S uo ty (.call ⟨.builtin .append, args, ts⟩) K = dquiet P f S ty (.call ⟨.builtin .append, args, ts⟩) (hAt K uo) := Eq.trans (Eq.refl _) (Eq.refl _)
theorem hop_buildSlice {ty : TypeId} {K : D → Option Ob → Prop} {uo : Option Ob} (t : TypeId) (n : Nat) (ps : Array (Nat × Operand)) : hop P f S uo ty (.buildSlice t n ps) K = dquiet P f S ty (.buildSlice t n ps) (hAt K uo) := Eq.trans (Eq.refl _) (Eq.refl _)
theorem hop_build {ty : TypeId} {K : D → Option Ob → Prop} {uo : Option Ob} (t : TypeId) (ps : Array (Nat × Operand)) : hop P f S uo ty (.build t ps) K = dquiet P f S ty (.build t ps) (hAt K uo) := Eq.trans (Eq.refl _) (Eq.refl _)
theorem hop_move {ty : TypeId} {K : D → Option Ob → Prop} {uo : Option Ob} (x : Operand) : hop P f S uo ty (.move x) K = dquiet P f S ty (.move x) (hAt K uo) := Eq.trans (Eq.refl _) (Eq.refl _)
theorem hop_assign {ty : TypeId} {K : D → Option Ob → Prop} {uo : Option Ob} (x : Operand) : hop P f S uo ty (.assign x) K = dquiet P f S ty (.assign x) (hAt K uo) := Eq.trans (Eq.refl _) (Eq.refl _)
theorem hop_pick {ty : TypeId} {K : D → Option Ob → Prop} {uo : Option Ob} (c x y : Operand) : hop P f S uo ty (.pick c x y) K = dquiet P f S ty (.pick c x y) (hAt K uo) := Eq.trans (Eq.refl _) (Eq.refl _)
theorem hop_load {ty : TypeId} {K : D → Option Ob → Prop} {uo : Option Ob} (t : TypeId) (x : Operand) : hop P f S uo ty (.load t x) K = dquiet P f S ty (.load t x) (hAt K uo) := Eq.trans (Eq.refl _) (Eq.refl _)
theorem hop_fieldAddr {ty : TypeId} {K : D → Option Ob → Prop} {uo : Option Ob} (t : TypeId) (x : Operand) (i : Nat) : hop P f S uo ty (.fieldAddr t x i) K = dquiet P f S ty (.fieldAddr t x i) (hAt K uo) := Eq.trans (Eq.refl _) (Eq.refl _)
theorem hop_field {ty : TypeId} {K : D → Option Ob → Prop} {uo : Option Ob} (t : TypeId) (x : Operand) (i : Nat) : hop P f S uo ty (.field t x i) K = dquiet P f S ty (.field t x i) (hAt K uo) := Eq.trans (Eq.refl _) (Eq.refl _)
theorem hop_indexAddr {ty : TypeId} {K : D → Option Ob → Prop} {uo : Option Ob} (t : TypeId) (x i : Operand) : hop P f S uo ty (.indexAddr t x i) K = dquiet P f S ty (.indexAddr t x i) (hAt K uo) := Eq.trans (Eq.refl _) (Eq.refl _)
theorem hop_index {ty : TypeId} {K : D → Option Ob → Prop} {uo : Option Ob} (t : TypeId) (x i : Operand) : hop P f S uo ty (.index t x i) K = dquiet P f S ty (.index t x i) (hAt K uo) := Eq.trans (Eq.refl _) (Eq.refl _)
theorem hop_extract {ty : TypeId} {K : D → Option Ob → Prop} {uo : Option Ob} (x : Operand) (i : Nat) : hop P f S uo ty (.extract x i) K = dquiet P f S ty (.extract x i) (hAt K uo) := Eq.trans (Eq.refl _) (Eq.refl _)
theorem hop_makeFunc {ty : TypeId} {K : D → Option Ob → Prop} {uo : Option Ob} (fn : Fn) (fs cs : Array Operand) : hop P f S uo ty (.makeFunc fn fs cs) K = dquiet P f S ty (.makeFunc fn fs cs) (hAt K uo) := Eq.trans (Eq.refl _) (Eq.refl _)
theorem hop_makeInterface {ty : TypeId} {K : D → Option Ob → Prop} {uo : Option Ob} (t : TypeId) (x : Operand) : hop P f S uo ty (.makeInterface t x) K = dquiet P f S ty (.makeInterface t x) (hAt K uo) := Eq.trans (Eq.refl _) (Eq.refl _)
theorem hop_nilCheck {ty : TypeId} {K : D → Option Ob → Prop} {uo : Option Ob} (x : Operand) : hop P f S uo ty (.nilCheck x) K = dquiet P f S ty (.nilCheck x) (hAt K uo) := Eq.trans (Eq.refl _) (Eq.refl _)
theorem hop_slice {ty : TypeId} {K : D → Option Ob → Prop} {uo : Option Ob} (t : TypeId) (x : Operand) (lo hi mx : Option Operand) : hop P f S uo ty (.slice t x lo hi mx) K = dquiet P f S ty (.slice t x lo hi mx) (hAt K uo) := Eq.trans (Eq.refl _) (Eq.refl _)
theorem hop_binOp {ty : TypeId} {K : D → Option Ob → Prop} {uo : Option Ob} (op : BinOp) (t : TypeId) (x y : Operand) (u : TypeId) : hop P f S uo ty (.binOp op t x y u) K = dquiet P f S ty (.binOp op t x y u) (hAt K uo) := Eq.trans (Eq.refl _) (Eq.refl _)
theorem hop_unOp {ty : TypeId} {K : D → Option Ob → Prop} {uo : Option Ob} (op : UnOp) (t : TypeId) (x : Operand) : hop P f S uo ty (.unOp op t x) K = dquiet P f S ty (.unOp op t x) (hAt K uo) := Eq.trans (Eq.refl _) (Eq.refl _)
theorem hop_convert {ty : TypeId} {K : D → Option Ob → Prop} {uo : Option Ob} (s t : TypeId) (x : Operand) : hop P f S uo ty (.convert s t x) K = dquiet P f S ty (.convert s t x) (hAt K uo) := Eq.trans (Eq.refl _) (Eq.refl _)
theorem hop_b_len {ty : TypeId} {K : D → Option Ob → Prop} {uo : Option Ob} (args : Array Operand) (ts : Array TypeId) : hop P f S uo ty (.call ⟨.builtin .len, args, ts⟩) K = dquiet P f S ty (.call ⟨.builtin .len, args, ts⟩) (hAt K uo) := Eq.trans (Eq.refl _) (Eq.refl _)
theorem hop_b_cap {ty : TypeId} {K : D → Option Ob → Prop} {uo : Option Ob} (args : Array Operand) (ts : Array TypeId) : hop P f S uo ty (.call ⟨.builtin .cap, args, ts⟩) K = dquiet P f S ty (.call ⟨.builtin .cap, args, ts⟩) (hAt K uo) := Eq.trans (Eq.refl _) (Eq.refl _)
theorem hop_b_min {ty : TypeId} {K : D → Option Ob → Prop} {uo : Option Ob} (args : Array Operand) (ts : Array TypeId) : hop P f S uo ty (.call ⟨.builtin .min, args, ts⟩) K = dquiet P f S ty (.call ⟨.builtin .min, args, ts⟩) (hAt K uo) := Eq.trans (Eq.refl _) (Eq.refl _)
theorem hop_b_max {ty : TypeId} {K : D → Option Ob → Prop} {uo : Option Ob} (args : Array Operand) (ts : Array TypeId) : hop P f S uo ty (.call ⟨.builtin .max, args, ts⟩) K = dquiet P f S ty (.call ⟨.builtin .max, args, ts⟩) (hAt K uo) := Eq.trans (Eq.refl _) (Eq.refl _)
section
variable {y n : Prop} {ty : TypeId} {op : Op} {K : D → Prop} {ops : Array Oper} {R : Fm → St → Prop} {r : List Oper} {dst : Option Tmp} {u : Option Ob}
theorem hg_tt : dguard (.v (.bool true)) true (dquietF P f S ty op K) n = dquiet P f S ty op K := by simp [dguard, dquietF]
theorem hg_ff : dguard (.v (.bool false)) false (dquietF P f S ty op K) n = dquiet P f S ty op K := by simp [dguard, dquietF]
theorem hg_tf : dguard (.v (.bool true)) false y (hskip P ops S R r f dst u) = dhead P ops S R r (put f dst undefD) u := by simp [dguard, hskip]
theorem hg_ft : dguard (.v (.bool false)) true y (hskip P ops S R r f dst u) = dhead P ops S R r (put f dst undefD) u := by simp [dguard, hskip]
theorem hg_no (want : Bool) : dguard undefD want y (hskip P ops S R r f dst u) = dhead P ops S R r (put f dst undefD) u := Eq.trans (Eq.refl _) (Eq.refl _)
end
def dqcall (P : Program) (S : St) (x : D) (args : List D) (K : D → Prop) : Prop := match x with
  | .fn (.func g) fs cs => ∃ d, DSt P g (fs ++ args ++ cs) S d ∧ K d
  | _ => False
def dqgo (P : Program) (S : St) (g : FuncId) (args : List D) (K : D → Prop) : Prop := ∃ d, DSt P g args S d ∧ K d
theorem dqcall_fn (g : FuncId) (fs args cs : List D) (K : D → Prop) : dqcall P S (.fn (.func g) fs cs) args K = dqgo P S g (fs ++ args ++ cs) K := Eq.trans (Eq.refl _) (Eq.refl _)
theorem dqgo_mk {g : FuncId} {args : List D} {K : D → Prop} {d : D} (h : DPure P g args d) (k : K d) : dqgo P S g args K := ⟨d, h.st, k⟩
theorem dqgo_at {g : FuncId} {args : List D} {K : D → Prop} {d : D} (h : DSt P g args S d) (k : K d) : dqgo P S g args K := ⟨d, h, k⟩
theorem dq_call {ty : TypeId} {K : D → Prop} (x : Operand) (args : List Operand) (ts : Array TypeId) : dquiet P f S ty (.call ⟨.value x, List.toArray args, ts⟩) K = dqcall P S (ev f x) (args.map (ev f)) K := Eq.trans (Eq.refl _) (Eq.refl _)
theorem dq_append {ty : TypeId} {K : D → Prop} (args : Array Operand) (ts : Array TypeId) : dquiet P f S ty (.call ⟨.builtin .append, args, ts⟩) K = onVal2 (dnew P f S (.call ⟨.builtin .append, args, ts⟩)) (dval P f S ty (.call ⟨.builtin .append, args, ts⟩)) K := Eq.trans (Eq.refl _) (Eq.refl _)
theorem onVal2_some (c : Prop) (d : D) (o : Option (Prop × D)) (K : D → Prop) : onVal2 (some (c, d)) o K = (c ∧ K d) := Eq.trans (Eq.refl _) (Eq.refl _)
theorem dq_buildSlice {ty : TypeId} {K : D → Prop} (t : TypeId) (n : Nat) (ps : Array (Nat × Operand)) : dquiet P f S ty (.buildSlice t n ps) K = onVal2 (dnew P f S (.buildSlice t n ps)) (dval P f S ty (.buildSlice t n ps)) K := Eq.trans (Eq.refl _) (Eq.refl _)
theorem dq_build {ty : TypeId} {K : D → Prop} (t : TypeId) (ps : Array (Nat × Operand)) : dquiet P f S ty (.build t ps) K = onVal2 (dnew P f S (.build t ps)) (dval P f S ty (.build t ps)) K := Eq.trans (Eq.refl _) (Eq.refl _)
theorem dq_move {ty : TypeId} {K : D → Prop} (x : Operand) : dquiet P f S ty (.move x) K = onVal (dval P f S ty (.move x)) K := Eq.trans (Eq.refl _) (Eq.refl _)
theorem dq_assign {ty : TypeId} {K : D → Prop} (x : Operand) : dquiet P f S ty (.assign x) K = onVal (dval P f S ty (.assign x)) K := Eq.trans (Eq.refl _) (Eq.refl _)
theorem dq_pick {ty : TypeId} {K : D → Prop} (c x y : Operand) : dquiet P f S ty (.pick c x y) K = onVal (dval P f S ty (.pick c x y)) K := Eq.trans (Eq.refl _) (Eq.refl _)
theorem dq_load {ty : TypeId} {K : D → Prop} (t : TypeId) (x : Operand) : dquiet P f S ty (.load t x) K = onVal (dval P f S ty (.load t x)) K := Eq.trans (Eq.refl _) (Eq.refl _)
theorem dq_fieldAddr {ty : TypeId} {K : D → Prop} (t : TypeId) (x : Operand) (i : Nat) : dquiet P f S ty (.fieldAddr t x i) K = onVal (dval P f S ty (.fieldAddr t x i)) K := Eq.trans (Eq.refl _) (Eq.refl _)
theorem dq_field {ty : TypeId} {K : D → Prop} (t : TypeId) (x : Operand) (i : Nat) : dquiet P f S ty (.field t x i) K = onVal (dval P f S ty (.field t x i)) K := Eq.trans (Eq.refl _) (Eq.refl _)
theorem dq_indexAddr {ty : TypeId} {K : D → Prop} (t : TypeId) (x i : Operand) : dquiet P f S ty (.indexAddr t x i) K = onVal (dval P f S ty (.indexAddr t x i)) K := Eq.trans (Eq.refl _) (Eq.refl _)
theorem dq_index {ty : TypeId} {K : D → Prop} (t : TypeId) (x i : Operand) : dquiet P f S ty (.index t x i) K = onVal (dval P f S ty (.index t x i)) K := Eq.trans (Eq.refl _) (Eq.refl _)
theorem dq_extract {ty : TypeId} {K : D → Prop} (x : Operand) (i : Nat) : dquiet P f S ty (.extract x i) K = onVal (dval P f S ty (.extract x i)) K := Eq.trans (Eq.refl _) (Eq.refl _)
theorem dq_makeFunc {ty : TypeId} {K : D → Prop} (fn : Fn) (fs cs : Array Operand) : dquiet P f S ty (.makeFunc fn fs cs) K = onVal (dval P f S ty (.makeFunc fn fs cs)) K := Eq.trans (Eq.refl _) (Eq.refl _)
theorem dq_makeInterface {ty : TypeId} {K : D → Prop} (t : TypeId) (x : Operand) : dquiet P f S ty (.makeInterface t x) K = onVal (dval P f S ty (.makeInterface t x)) K := Eq.trans (Eq.refl _) (Eq.refl _)
theorem dq_nilCheck {ty : TypeId} {K : D → Prop} (x : Operand) : dquiet P f S ty (.nilCheck x) K = onVal (dval P f S ty (.nilCheck x)) K := Eq.trans (Eq.refl _) (Eq.refl _)
theorem dq_slice {ty : TypeId} {K : D → Prop} (t : TypeId) (x : Operand) (lo hi mx : Option Operand) : dquiet P f S ty (.slice t x lo hi mx) K = onVal (dval P f S ty (.slice t x lo hi mx)) K := Eq.trans (Eq.refl _) (Eq.refl _)
theorem dq_binOp {ty : TypeId} {K : D → Prop} (op : BinOp) (t : TypeId) (x y : Operand) (u : TypeId) : dquiet P f S ty (.binOp op t x y u) K = onVal (dval P f S ty (.binOp op t x y u)) K := Eq.trans (Eq.refl _) (Eq.refl _)
theorem dq_unOp {ty : TypeId} {K : D → Prop} (op : UnOp) (t : TypeId) (x : Operand) : dquiet P f S ty (.unOp op t x) K = onVal (dval P f S ty (.unOp op t x)) K := Eq.trans (Eq.refl _) (Eq.refl _)
theorem onVal_orD {a b : Option (Prop × D)} {K : D → Prop} : onVal2 a b K = onVal (orD a b) K := by cases a <;> rfl
theorem dq_convert {ty : TypeId} {K : D → Prop} (s t : TypeId) (x : Operand) : dquiet P f S ty (.convert s t x) K = onVal (orD (dnew P f S (.convert s t x)) (dval P f S ty (.convert s t x))) K := Eq.trans (Eq.trans (Eq.refl _) onVal_orD) (Eq.refl _)
theorem dq_b_len {ty : TypeId} {K : D → Prop} (args : Array Operand) (ts : Array TypeId) : dquiet P f S ty (.call ⟨.builtin .len, args, ts⟩) K = onVal (dval P f S ty (.call ⟨.builtin .len, args, ts⟩)) K := Eq.trans (Eq.refl _) (Eq.refl _)
theorem dq_b_cap {ty : TypeId} {K : D → Prop} (args : Array Operand) (ts : Array TypeId) : dquiet P f S ty (.call ⟨.builtin .cap, args, ts⟩) K = onVal (dval P f S ty (.call ⟨.builtin .cap, args, ts⟩)) K := Eq.trans (Eq.refl _) (Eq.refl _)
theorem dq_b_min {ty : TypeId} {K : D → Prop} (args : Array Operand) (ts : Array TypeId) : dquiet P f S ty (.call ⟨.builtin .min, args, ts⟩) K = onVal (dval P f S ty (.call ⟨.builtin .min, args, ts⟩)) K := Eq.trans (Eq.refl _) (Eq.refl _)
theorem dq_b_max {ty : TypeId} {K : D → Prop} (args : Array Operand) (ts : Array TypeId) : dquiet P f S ty (.call ⟨.builtin .max, args, ts⟩) K = onVal (dval P f S ty (.call ⟨.builtin .max, args, ts⟩)) K := Eq.trans (Eq.refl _) (Eq.refl _)
end
theorem width_len (d : D) : d.width = d.cells.length := Eq.trans (Eq.refl _) (Eq.refl _)
theorem cells_agg_ (cs : List D) : (D.agg cs).cells = cs := Eq.trans (Eq.refl _) (Eq.refl _)
theorem cells_v_ (x : Value) : (D.v x).cells = [D.v x] := Eq.trans (Eq.refl _) (Eq.refl _)
theorem cells_tup_ (cs : List D) : (D.tup cs).cells = [D.tup cs] := Eq.trans (Eq.refl _) (Eq.refl _)
theorem cells_fn_ (g : Fn) (fs cs : List D) : (D.fn g fs cs).cells = [D.fn g fs cs] := Eq.trans (Eq.refl _) (Eq.refl _)
theorem okCell_fn_ (g : Fn) (fs cs : List D) : (D.fn g fs cs).okCell = true := Eq.trans (Eq.refl _) (Eq.refl _)
theorem cells_ifc_ (t : TypeId) (d : D) : (D.ifc t d).cells = [D.ifc t d] := Eq.trans (Eq.refl _) (Eq.refl _)
theorem okCell_ifc_ (t : TypeId) (d : D) : (D.ifc t d).okCell = true := Eq.trans (Eq.refl _) (Eq.refl _)
theorem cells_loc_ (k o : Nat) : (D.loc k o).cells = [D.loc k o] := Eq.trans (Eq.refl _) (Eq.refl _)
theorem okCell_loc_ (k o : Nat) : (D.loc k o).okCell = true := Eq.trans (Eq.refl _) (Eq.refl _)
theorem cells_rd_ (cs : List D) (o : Nat) : (D.rd cs o).cells = [D.rd cs o] := Eq.trans (Eq.refl _) (Eq.refl _)
theorem okCell_rd_ (cs : List D) (o : Nat) : (D.rd cs o).okCell = true := Eq.trans (Eq.refl _) (Eq.refl _)
theorem cells_sl_ (o : Own) (es : List D) : (D.sl o es).cells = [D.sl o es] := Eq.trans (Eq.refl _) (Eq.refl _)
theorem okCell_sl_ (o : Own) (es : List D) : (D.sl o es).okCell = true := Eq.trans (Eq.refl _) (Eq.refl _)
theorem okCell_agg_ (cs : List D) : (D.agg cs).okCell = true := Eq.trans (Eq.refl _) (Eq.refl _)
theorem okCell_bool_ (b : Bool) : (D.v (.bool b)).okCell = true := Eq.trans (Eq.refl _) (Eq.refl _)
theorem okCell_int_ (k : IntKind) (n : Int) : (D.v (.int k n)).okCell = true := Eq.trans (Eq.refl _) (Eq.refl _)
theorem okCell_string_ (s : ByteArray) : (D.v (.string s)).okCell = true := Eq.trans (Eq.refl _) (Eq.refl _)
theorem okCell_pointer_ (x : Option Addr) : (D.v (.pointer x)).okCell = true := Eq.trans (Eq.refl _) (Eq.refl _)
theorem okCell_slice_ (x : Option Addr) (n m : Nat) : (D.v (.slice x n m)).okCell = true := Eq.trans (Eq.refl _) (Eq.refl _)
theorem okCell_nilFunc_  : (D.v (.nilFunc)).okCell = true := Eq.trans (Eq.refl _) (Eq.refl _)
theorem okCell_nilIface_  : (D.v (.nilIface)).okCell = true := Eq.trans (Eq.refl _) (Eq.refl _)
theorem okCell_float_ (k : FloatKind) (n : Nat) : (D.v (.float k n)).okCell = true := Eq.trans (Eq.refl _) (Eq.refl _)
theorem okCell_map_ (r : Option Nat) : (D.v (.map r)).okCell = true := Eq.trans (Eq.refl _) (Eq.refl _)
theorem okCell_func_ (g : Fn) (x y : Array Value) : (D.v (.func g x y)).okCell = true := Eq.trans (Eq.refl _) (Eq.refl _)
theorem okCell_iface_ (t : TypeId) (x : Value) : (D.v (.iface t x)).okCell = true := Eq.trans (Eq.refl _) (Eq.refl _)
attribute [go_sem_proc] Nat.reduceMul Nat.reduceBEq Nat.reduceAdd Nat.reduceLeDiff Nat.reduceEqDiff Nat.reduceLT
attribute [go_sem_proc ↓] reduceIte
attribute [go_sem] width_len cells_agg_ cells_v_ cells_tup_ cells_fn_ okCell_fn_ cells_ifc_ okCell_ifc_ cells_loc_ okCell_loc_ cells_rd_ okCell_rd_ cells_sl_ okCell_sl_ okCell_agg_ okCell_bool_ okCell_int_ okCell_string_ okCell_pointer_ okCell_slice_ okCell_nilFunc_ okCell_nilIface_ okCell_float_ okCell_map_ okCell_func_ okCell_iface_
attribute [go_sem] hnext_eq hnextN_eq hAt_eq after_none after_some hop_alloc hop_box hop_call hop_append hop_buildSlice hop_build hop_move hop_assign hop_pick hop_load hop_fieldAddr hop_field hop_indexAddr hop_index hop_extract hop_makeFunc hop_makeInterface hop_nilCheck hop_slice hop_binOp hop_unOp hop_convert hop_b_len hop_b_cap hop_b_min hop_b_max dtail_eq dhead_nil dhead_plain dhead_guard hg_tt hg_ff hg_tf hg_ft hg_no dqcall_fn dq_call dq_append onVal2_some onVal_some dq_buildSlice dq_build dq_move dq_assign dq_pick dq_load dq_fieldAddr dq_field dq_indexAddr dq_index dq_extract dq_makeFunc dq_makeInterface dq_nilCheck dq_slice dq_binOp dq_unOp dq_convert dq_b_len dq_b_cap dq_b_min dq_b_max
attribute [go_sem] bin_slnil bin_winnil bin_leql bin_lneq bin_ieql bin_ineq bin_ifc orD_some orD_none bytesD_map
attribute [go_sem] dops_p_move dops_g_move dops_pb_move dops_gb_move dops_p_assign dops_g_assign dops_pb_assign dops_gb_assign dops_p_pick dops_g_pick dops_pb_pick dops_gb_pick dops_p_alloc dops_g_alloc dops_pb_alloc dops_gb_alloc dops_p_box dops_g_box dops_pb_box dops_gb_box dops_p_build dops_g_build dops_pb_build dops_gb_build dops_p_insert dops_g_insert dops_pb_insert dops_gb_insert dops_p_load dops_g_load dops_pb_load dops_gb_load dops_p_store dops_g_store dops_pb_store dops_gb_store dops_p_ready dops_g_ready dops_pb_ready dops_gb_ready dops_p_waits dops_g_waits dops_pb_waits dops_gb_waits dops_p_nilCheck dops_g_nilCheck dops_pb_nilCheck dops_gb_nilCheck dops_p_binOp dops_g_binOp dops_pb_binOp dops_gb_binOp dops_p_unOp dops_g_unOp dops_pb_unOp dops_gb_unOp dops_p_convert dops_g_convert dops_p_sliceToArrayPointer dops_g_sliceToArrayPointer dops_pb_sliceToArrayPointer dops_gb_sliceToArrayPointer dops_p_makeInterface dops_g_makeInterface dops_pb_makeInterface dops_gb_makeInterface dops_p_makeFunc dops_g_makeFunc dops_pb_makeFunc dops_gb_makeFunc dops_p_makeMap dops_g_makeMap dops_pb_makeMap dops_gb_makeMap dops_p_makeChan dops_g_makeChan dops_pb_makeChan dops_gb_makeChan dops_p_makeSlice dops_g_makeSlice dops_pb_makeSlice dops_gb_makeSlice dops_p_slice dops_g_slice dops_pb_slice dops_gb_slice dops_p_fieldAddr dops_g_fieldAddr dops_pb_fieldAddr dops_gb_fieldAddr dops_p_field dops_g_field dops_pb_field dops_gb_field dops_p_indexAddr dops_g_indexAddr dops_pb_indexAddr dops_gb_indexAddr dops_p_index dops_g_index dops_pb_index dops_gb_index dops_p_lookup dops_g_lookup dops_pb_lookup dops_gb_lookup dops_p_mapUpdate dops_g_mapUpdate dops_pb_mapUpdate dops_gb_mapUpdate dops_p_mapEntry dops_g_mapEntry dops_pb_mapEntry dops_gb_mapEntry dops_p_entryStore dops_g_entryStore dops_pb_entryStore dops_gb_entryStore dops_p_range dops_g_range dops_pb_range dops_gb_range dops_p_next dops_g_next dops_pb_next dops_gb_next dops_p_entry dops_g_entry dops_pb_entry dops_gb_entry dops_p_typeAssert dops_g_typeAssert dops_pb_typeAssert dops_gb_typeAssert dops_p_extract dops_g_extract dops_pb_extract dops_gb_extract dops_p_call dops_g_call dops_pb_call dops_gb_call dops_p_go dops_g_go dops_pb_go dops_gb_go dops_p_defer dops_g_defer dops_pb_defer dops_gb_defer dops_p_panic dops_g_panic dops_pb_panic dops_gb_panic dops_p_send dops_g_send dops_pb_send dops_gb_send dops_p_recv dops_g_recv dops_pb_recv dops_gb_recv dops_p_select dops_g_select dops_pb_select dops_gb_select dops_pb_nil dops_gb_nil dops_pb_conv dops_gb_conv
attribute [go_sem] decide_true decide_false pureRun_pure Bool.not_true Bool.not_false Bool.true_or Bool.false_or Bool.or_true Bool.or_false Bool.true_and Bool.false_and Bool.and_true Bool.and_false dg_tt dg_ff dg_tf dg_ft dg_no dIf_t dIf_f List.length_map Int.toNat_natCast dwp_skip dwp_label dwp_exit dwp_ret dwp_seq dwp_block dwp_loop dwp_cond dwp_region dwp_draw then_normal then_exit then_ret block_normal block_ret block_eq block_ne dnext_eq gtmp_zero gtmp_succ dguardT_some dops_nil onValS_some dop_move dop_assign dop_pick dop_load dop_fieldAddr dop_field dop_indexAddr dop_index dop_extract dop_makeFunc dop_makeInterface dop_nilCheck dop_slice dop_binOp dop_unOp dop_convert dop_b_len dop_b_cap dop_b_min dop_b_max dop_buildSlice dop_build dop_alloc dop_box dop_store dop_call dop_append dop_clear winOff_zero dcall_fn put_eq put_ne put_none argF_zero argF_succ argF_nil ofV_int ofV_bool ofV_string ofV_nil ofV_iface ofV_func ofV_ptr bin_add bin_sub bin_mul bin_eql bin_neq bin_lss bin_leq bin_gtr bin_geq bin_seql bin_sneq bin_slss bin_sgtr bin_sleq bin_sgeq un_not un_neg bu_max bu_min add_next set_next grow_next grow_full_ob grow_row_ob pfin_ret pfin_normal pfin_ret2 pfin_normal2 list_of_array dstore dappend dval dnew ev rdOk rdVal splice true_and and_true cond_true cond_false List.map_cons List.map_nil List.length_cons List.length_nil List.take_succ_cons List.take_zero List.drop_succ_cons List.drop_zero List.getD_cons_zero List.getD_cons_succ List.cons_append List.nil_append List.append_nil ne_eq not_false_eq_true Nat.zero_add Nat.add_zero Option.map_some
section
theorem fillD_nil (pl : Nat → Option (Nat × Nat)) (cs : List D) : fillD pl cs [] = (True, cs) := by unfold fillD; exact Eq.trans (Eq.refl _) (Eq.refl _)
def fillS (o : Option (Nat × Nat)) (pl : Nat → Option (Nat × Nat)) (cs : List D) (d : D) (r : List (Nat × D)) : Prop × List D := match o with
  | some (off, n) => (d.okCell = true ∧ d.width = n ∧ off + n ≤ cs.length ∧ (fillD pl (splice cs off d.cells) r).1, (fillD pl (splice cs off d.cells) r).2)
  | none => (False, cs)
theorem fillD_cons (pl : Nat → Option (Nat × Nat)) (cs : List D) (i : Nat) (d : D) (r : List (Nat × D)) : fillD pl cs ((i, d) :: r) = fillS (pl i) pl cs d r := by
  rw [fillD]; unfold fillS; cases pl i <;> rfl
theorem fillS_some (off n : Nat) (pl : Nat → Option (Nat × Nat)) (cs : List D) (d : D) (r : List (Nat × D)) : fillS (some (off, n)) pl cs d r = (d.okCell = true ∧ d.width = n ∧ off + n ≤ cs.length ∧ (fillD pl (splice cs off d.cells) r).1, (fillD pl (splice cs off d.cells) r).2) := Eq.trans (Eq.refl _) (Eq.refl _)
attribute [go_sem] fillD_nil fillD_cons fillS_some
def dcellR (P : Program) (S' : St) (t : TypeId) (x : D) (K : D → Prop) : Prop := match x with
  | .loc k off => match S'.ob k with
    | some (.box _ cs) => rdOk P t cs off ∧ K (rdVal P t cs off)
    | _ => False
  | _ => False
attribute [go_sem] dcellR
end
end Go.Proofs.Ytonncfminojejaa

namespace Go.Proofs.Ytonncfminojejaa
open Go.RowKit

def u64D (n : Nat) : D := .v (.int .u64 (n : Int))
/-! What fits the machine's bounds. -/
section
variable {P : Program} {w : World} {η : Names} {X : Nat → Nat → Prop}
theorem rep_structs {F : Nat → Prop} {α : Type} (e : α → D) (z : Nat) (hz : 0 < z) (hX : ∀ b i, F b → X b i) {A : Option Addr} {c b o : Nat} {l : List α} {C : Nat → List Value} (hA : 0 < l.length → A = some ⟨b, o, none⟩ ∧ F b)
    (hC : ∀ i a, l[i]? = some a → (C i).length = z ∧ w.rangeAt b (o + i * z) (C i)) (hR : ∀ i a, l[i]? = some a → Rep P w η X (e a) (.agg (C i).toArray)) (hagg : ∀ a, (e a).isAgg = true) (hc : l.length ≤ c) (hn : l.length ≤ 140737488351232) :
    Rep P w η X (.sl .no (l.map e)) (.slice A l.length c) := by
  simp only [Rep]
  refine ⟨A, c, by rw [List.length_map], by rw [List.length_map]; exact hc, by rw [List.length_map]; omega, trivial, fun h0 => ?_⟩
  rw [List.length_map] at h0
  refine ⟨b, o, z, (hA h0).1, hz, RepE.mk fun i d hd => ?_⟩
  rw [List.getElem?_map] at hd
  cases hi : l[i]? with
  | none => rw [hi] at hd; cases hd
  | some a =>
    rw [hi] at hd
    injection hd with hd
    subst hd
    have h1 := hR i a hi
    obtain ⟨h2, h3⟩ := hC i a hi
    cases he : e a with
    | agg ds =>
      rw [he] at h1
      simp only [Rep] at h1
      obtain ⟨vs, h4, h5, h6⟩ := h1
      have : C i = vs := by
        injection h4 with h4
        have := congrArg Array.toList h4
        simpa using this
      rw [this] at h2 h3
      have hlen : ds.length = z := by rw [← h5.length, h2]
      exact ⟨by simp only [RepA]; exact ⟨hlen, RepC.mk h5 h3 (fun j _ => hX _ _ (hA h0).2) h6⟩, fun h => by simp [D.isAgg] at h⟩
    | _ => have := hagg a; rw [he] at this; simp [D.isAgg] at this
end
/-! ### Over memory, and over trees -/
section
variable {P : Program} {base : Nat} {S : St} {η : Names} {w : World}
def St.nil : St := ⟨0, fun _ => none⟩
theorem mem_nil (w : World) (hg : GlobOk w.heap.size w) : Mem P w.heap.size St.nil (fun _ => none) w := ⟨Nat.le_refl _, fun _ _ => rfl, fun _ _ => rfl, (fun _ _ _ h => by cases h), (fun _ _ _ h => by cases h), (fun _ _ h => by cases h), (fun _ _ _ _ h => by cases h), (fun _ _ _ _ h => by cases h), hg⟩
theorem fix_nil (b i : Nat) : Fix P St.nil (fun _ => none) b i := fun _ _ h => by cases h
theorem gives_of_dpure {g : FuncId} {args : List D} {v : Value} (h : DPure P g args (.v v)) {w : World} {vs : List Value} (hr : RepL P w (fun _ => none) (Fix P St.nil fun _ => none) args vs) (hent : ∀ vs w, (callFunc g vs).run P w = .ok (.enter g vs) w := by intro _ _; kernel_rfl) (hg : GlobOk w.heap.size w := by exact globOk_none _ _) : Calls P g vs.toArray w (Gives v w) := by
  rcases h St.nil w.heap.size _ w vs (mem_nil w hg) hr with ⟨_, k⟩ | ⟨d, S', η', u, w', k, _⟩
  · refine k.mono fun _ _ ⟨d, S', η', u, ⟨h1, _⟩, h2, h3, h4⟩ => ?_
    subst h1
    simp only [Rep] at h3
    subst h3
    exact ⟨h2, h4.below⟩
  · rw [hent] at k
    injection k with k
    cases k
end
theorem empty_toList : (⟨#[]⟩ : ByteArray).toList = [] := by rw [Go.Lib.toList_data]
attribute [go_sem] empty_toList u64D
end Go.Proofs.Ytonncfminojejaa

namespace Go.Proofs.Ytonncfminojejaa
open Go.ChangeShapes Go.WideShapes Go.ChangeAt Go.RowKit Go.Deep Go.Joins
section
variable {H : Type} {enc : TypeId × Value → H} {w : World}
theorem open_structs_trod {P : Program} {α : Type} (e : α → D) {t el : TypeId} {size bytes : Nat} (ht : P.underlying t = some (.slice el)) (hc : P.cellsOf el = size) (hs0 : 0 < size) (hby : P.bytesOf el = bytes) (hb0 : 0 < bytes) (Q : α → List Value → Prop)
    (elem : ∀ (fuel : Nat) (cs : List Value) (x : DataW H × List MemPlace), DataW.trod enc P w 0 (fun _ => true) true fuel el cs = some x → Sized P el x.1 → cs.length = size → ∃ d, Q d cs)
    (hw : ∀ a, (e a).width = size) (hag : ∀ a, (e a).isAgg = true) (hrep : ∀ d cs, Q d cs → ∀ (η : Names) (X : Nat → Nat → Prop), (∀ b i, X b i) → Rep P w η X (e d) (.agg cs.toArray))
    {fuel : Nat} {cs : List Value} {x : DataW H × List MemPlace} (h : DataW.trod enc P w 0 (fun _ => true) true fuel t cs = some x) (hs : Sized P t x.1) :
    ∃ l : List α, (∀ a ∈ l, ∃ cs, Q a cs) ∧ l.length ≤ 140737488351232 ∧ ∃ u, cs = [u] ∧ ∀ (η : Names) (X : Nat → Nat → Prop), (∀ b i, X b i) → Rep P w η X (.sl .no (l.map e)) u := by
  obtain ⟨A, c, l, hcs, hlc, hr, hb⟩ := open_rows_trod (α := α × List Value) ht hc hs0 hby hb0 (fun b o d => d.2.length = size ∧ Q d.1 d.2 ∧ w.rangeAt b o d.2) (fun fuel cs x b o _ hx hsx hlen hcell => by
    obtain ⟨d, hd⟩ := elem fuel cs x hx hsx hlen
    exact ⟨(d, cs), hlen, hd, hcell⟩) h hs
  have hbb : l.length ≤ 140737488351232 := by
    have : c * 1 ≤ c * bytes := Nat.mul_le_mul_left _ hb0
    omega
  refine ⟨l.map (·.1), fun a ha => ?_, by rw [List.length_map]; exact hbb, _, hcs, fun η X hX => ?_⟩
  · obtain ⟨d, hd, rfl⟩ := List.mem_map.1 ha
    obtain ⟨i, hi, rfl⟩ := List.getElem_of_mem hd
    obtain ⟨b, o, _, _, hf⟩ := hr (by omega)
    exact ⟨_, (hf i _ (List.getElem?_eq_getElem hi)).2.1⟩
  · rcases Nat.eq_zero_or_pos l.length with h0 | h0
    · obtain rfl : l = [] := List.eq_nil_of_length_eq_zero h0
      simp only [Rep, List.map_nil, List.length_nil]
      exact ⟨A, c, rfl, Nat.zero_le _, by omega, trivial, fun h => absurd h (by omega)⟩
    · obtain ⟨b, o, rfl, hbl, hf⟩ := hr h0
      have hget : ∀ (i : Nat) (a : α), (l.map (·.1))[i]? = some a → ∃ C, l[i]? = some (a, C) ∧ ((l[i]?.map (·.2)).getD []) = C := by
        intro i a ha
        rw [List.getElem?_map] at ha
        cases hi : l[i]? with
        | none => rw [hi] at ha; cases ha
        | some d =>
          rw [hi] at ha
          obtain ⟨d1, d2⟩ := d
          simp at ha
          exact ⟨d2, by rw [ha], rfl⟩
      have hlen : l.length = (l.map (·.1)).length := by simp
      rw [hlen] at hlc hbb ⊢
      refine rep_structs (F := (· < w.heap.size)) e size hs0 (fun b i _ => hX b i) (b := b) (o := o) (C := fun i => (l[i]?.map (·.2)).getD []) (fun _ => ⟨rfl, hbl⟩) (fun i a ha => ?_) (fun i a ha => ?_) hag hlc hbb
      · obtain ⟨C, h1, h2⟩ := hget i a ha
        simp only [h2]
        have := hf i _ h1
        exact ⟨this.1, this.2.2⟩
      · obtain ⟨C, h1, h2⟩ := hget i a ha
        simp only [h2]
        exact hrep a C (hf i _ h1).2.1 η X hX
theorem open_cells_trod {P : Program} {α : Type} (g : α → Value) (hg : ∀ a, (g a).oneCell' = true) {t el : TypeId} {bytes : Nat} (ht : P.underlying t = some (.slice el)) (hc : P.cellsOf el = 1) (hby : P.bytesOf el = bytes) (hb0 : 0 < bytes) (Q : α → Prop)
    (elem : ∀ (fuel : Nat) (u : Value) (x : DataW H × List MemPlace), DataW.trod enc P w 0 (fun _ => true) true fuel el [u] = some x → Sized P el x.1 → ∃ d, Q d ∧ u = g d)
    {fuel : Nat} {cs : List Value} {x : DataW H × List MemPlace} (h : DataW.trod enc P w 0 (fun _ => true) true fuel t cs = some x) (hs : Sized P t x.1) :
    ∃ l : List α, (∀ a ∈ l, Q a) ∧ l.length ≤ 140737488351232 ∧ ∃ u, cs = [u] ∧ ∀ (η : Names) (X : Nat → Nat → Prop), (∀ b i, X b i) → Rep P w η X (.sl .no (l.map fun a => .v (g a))) u := by
  obtain ⟨A, c, l, hcs, hlc, hr, hb⟩ := open_rows_trod (α := α) ht hc (by omega) hby hb0 (fun b o a => Q a ∧ w.cell? ⟨b, o, none⟩ = some (g a)) (fun fuel cs x b o _ hx hsx hlen hcell => by
    match cs, hlen with
    | [u], _ =>
      obtain ⟨d, hd, rfl⟩ := elem fuel u x hx hsx
      exact ⟨d, hd, hcell 0 _ rfl⟩) h hs
  have hbb : l.length ≤ 140737488351232 := by
    have : c * 1 ≤ c * bytes := Nat.mul_le_mul_left _ hb0
    omega
  refine ⟨l, fun a ha => ?_, hbb, _, hcs, fun η X hX => ?_⟩
  · obtain ⟨i, hi, rfl⟩ := List.getElem_of_mem ha
    obtain ⟨b, o, _, _, hf⟩ := hr (by omega)
    exact (hf i _ (List.getElem?_eq_getElem hi)).1
  · simp only [Rep]
    refine ⟨A, c, by rw [List.length_map], by rw [List.length_map]; exact hlc, by rw [List.length_map]; omega, trivial, fun h0 => ?_⟩
    rw [List.length_map] at h0
    obtain ⟨b, o, e, hbl, hf⟩ := hr h0
    refine ⟨b, o, 1, e, by omega, RepE.mk fun i d hd => ?_⟩
    rw [List.getElem?_map] at hd
    cases hi : l[i]? with
    | none => rw [hi] at hd; cases hd
    | some a =>
      rw [hi] at hd
      injection hd with hd
      subst hd
      exact ⟨by simp only [RepA], fun _ => ⟨rfl, hX _ _, g a, (hf i a hi).2, hg a, by simp only [Rep]⟩⟩
end
end Go.Proofs.Ytonncfminojejaa
