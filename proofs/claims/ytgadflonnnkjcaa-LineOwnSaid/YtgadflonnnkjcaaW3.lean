/- Texts of a proof, part 3. Conditions: none. -/
import Derived.Test.YtgadflonnnkjcaaW2
import Derived.Test.YtgadflonnnkjcaaProg
import Derived.KernelRfl
import Derived.Laws.CopyRow
import Derived.Laws.Externs
set_option linter.unusedVariables false
set_option linter.unusedSimpArgs false
namespace Go.Proofs.Ytgadflonnnkjcaa
open Go.RowKit

theorem put_eq (f : Fm) (t : Tmp) (d : D) : put f (some t) d t = d := by simp [put]
theorem put_ne (f : Fm) (t : Tmp) (d : D) (i : Nat) (h : (i == t) = false) : put f (some t) d i = f i := by
  have : Nat.beq i t = false := by
    cases hb : Nat.beq i t with
    | false => rfl
    | true => rw [Nat.eq_of_beq_eq_true hb] at h; simp at h
  simp [put, this]
theorem put_none (f : Fm) (d : D) : put f none d = f := Eq.trans (Eq.refl _) (Eq.refl _)
theorem argF_nil (t : Nat) : argF [] t = undefD := Eq.trans (Eq.refl _) (Eq.refl _)
theorem argF_zero (d : D) (l : List D) : argF (d :: l) 0 = d := Eq.trans (Eq.refl _) (Eq.refl _)
theorem argF_succ (d : D) (l : List D) (t : Nat) : argF (d :: l) (t + 1) = argF l t := Eq.trans (Eq.refl _) (Eq.refl _)
section
variable {P : Program} {x y : Operand} {t : TypeId}
theorem pureRun_bind {α β : Type} (s : Sem α) (g : α → Sem β) : pureRun P (s >>= g) = (pureRun P s).bind fun a => pureRun P (g a) := by
  show pureRun P (Sem.bind s g) = _
  induction s with
  | pure a => rfl
  | program k ih => simp only [Sem.bind, pureRun]; exact ih _
  | mark m k ih => simp only [Sem.bind, pureRun]; exact ih
  | _ => rfl
theorem pureRun_pure {α : Type} (a : α) : pureRun P (pure a : Sem α) = some a := Eq.trans (Eq.refl _) (Eq.refl _)
theorem ofV_int (k : IntKind) (n : Int) : ofV (.int k n) = .v (.int k n) := Eq.trans (Eq.refl _) (Eq.refl _)
theorem ofV_bool (b : Bool) : ofV (.bool b) = .v (.bool b) := Eq.trans (Eq.refl _) (Eq.refl _)
theorem ofV_string (s : ByteArray) : ofV (.string s) = .v (.string s) := Eq.trans (Eq.refl _) (Eq.refl _)
theorem ofV_nil : ofV (.slice none 0 0) = .sl .full [] := Eq.trans (Eq.refl _) (Eq.refl _)
theorem ofV_iface : ofV .nilIface = .v .nilIface := Eq.trans (Eq.refl _) (Eq.refl _)
theorem ofV_func : ofV .nilFunc = .v .nilFunc := Eq.trans (Eq.refl _) (Eq.refl _)
theorem ofV_ptr (a : Option Addr) : ofV (.pointer a) = .v (.pointer a) := Eq.trans (Eq.refl _) (Eq.refl _)
/-! Operations on plain values. -/
theorem bin_add (k : IntKind) (a b : Int) : dbin P .add t x y (.v (.int k a)) (.v (.int k b)) = some (True, .v (.int k (k.wrap (a + b)))) := by
  simp [dbin, eqGuard, binOp, Op.intArith, pureRun_bind, pureRun_pure]
theorem bin_sub (k : IntKind) (a b : Int) : dbin P .sub t x y (.v (.int k a)) (.v (.int k b)) = some (True, .v (.int k (k.wrap (a - b)))) := by
  simp [dbin, eqGuard, binOp, Op.intArith, pureRun_bind, pureRun_pure]
theorem bin_mul (k : IntKind) (a b : Int) : dbin P .mul t x y (.v (.int k a)) (.v (.int k b)) = some (True, .v (.int k (k.wrap (a * b)))) := by
  simp [dbin, eqGuard, binOp, Op.intArith, pureRun_bind, pureRun_pure]
theorem bin_eql (k : IntKind) (a b : Int) : dbin P .eql t x y (.v (.int k a)) (.v (.int k b)) = some (True, .v (.bool (a == b))) := by
  simp [dbin, eqGuard, binOp, Op.intCmp, pureRun_bind, pureRun_pure]
theorem bin_neq (k : IntKind) (a b : Int) : dbin P .neq t x y (.v (.int k a)) (.v (.int k b)) = some (True, .v (.bool (a != b))) := by
  simp [dbin, eqGuard, binOp, Op.intCmp, pureRun_bind, pureRun_pure]
theorem bin_lss (k : IntKind) (a b : Int) : dbin P .lss t x y (.v (.int k a)) (.v (.int k b)) = some (True, .v (.bool (decide (a < b)))) := by
  simp [dbin, eqGuard, binOp, Op.intCmp, pureRun_bind, pureRun_pure]
theorem bin_leq (k : IntKind) (a b : Int) : dbin P .leq t x y (.v (.int k a)) (.v (.int k b)) = some (True, .v (.bool (decide (a ≤ b)))) := by
  simp [dbin, eqGuard, binOp, Op.intCmp, pureRun_bind, pureRun_pure]
theorem bin_gtr (k : IntKind) (a b : Int) : dbin P .gtr t x y (.v (.int k a)) (.v (.int k b)) = some (True, .v (.bool (decide (b < a)))) := by
  simp [dbin, eqGuard, binOp, Op.intCmp, pureRun_bind, pureRun_pure]
theorem bin_geq (k : IntKind) (a b : Int) : dbin P .geq t x y (.v (.int k a)) (.v (.int k b)) = some (True, .v (.bool (decide (b ≤ a)))) := by
  simp [dbin, eqGuard, binOp, Op.intCmp, pureRun_bind, pureRun_pure]
theorem bin_leql (k off : Nat) : dbin P .eql t x y (.loc k off) (.v (.pointer none)) = some (ptrT P t = true, .v (.bool false)) := Eq.trans (Eq.refl _) (Eq.refl _)
theorem bin_lneq (k off : Nat) : dbin P .neq t x y (.loc k off) (.v (.pointer none)) = some (ptrT P t = true, .v (.bool true)) := Eq.trans (Eq.refl _) (Eq.refl _)
theorem bin_ieql (u : TypeId) (d : D) : dbin P .eql t x y (.ifc u d) (.v .nilIface) = some (ifaceT P t = true, .v (.bool false)) := Eq.trans (Eq.refl _) (Eq.refl _)
theorem bin_ineq (u : TypeId) (d : D) : dbin P .neq t x y (.ifc u d) (.v .nilIface) = some (ifaceT P t = true, .v (.bool true)) := Eq.trans (Eq.refl _) (Eq.refl _)
theorem bin_ifc (t1 t2 : TypeId) (a b : D) : dbin P .eql t x y (.ifc t1 a) (.ifc t2 b) = some (IfcEq P t x y t1 a t2 b, .v (.bool (ifcB t1 a t2 b))) := Eq.trans (Eq.refl _) (Eq.refl _)
theorem bin_seql (a b : ByteArray) : dbin P .eql t x y (.v (.string a)) (.v (.string b)) = some (True, .v (.bool (a.toList == b.toList))) := by
  simp [dbin, eqGuard, binOp, Op.stringOp, pureRun_bind, pureRun_pure]
theorem bin_sneq (a b : ByteArray) : dbin P .neq t x y (.v (.string a)) (.v (.string b)) = some (True, .v (.bool (!(a.toList == b.toList)))) := by
  simp [dbin, eqGuard, binOp, Op.stringOp, pureRun_bind, pureRun_pure]
theorem bin_slss (a b : ByteArray) : dbin P .lss t x y (.v (.string a)) (.v (.string b)) = some (True, .v (.bool (Op.bytesLess a.toList b.toList))) := by
  simp [dbin, eqGuard, binOp, Op.stringOp, pureRun_bind, pureRun_pure]
theorem bin_sgtr (a b : ByteArray) : dbin P .gtr t x y (.v (.string a)) (.v (.string b)) = some (True, .v (.bool (!(Op.bytesLess a.toList b.toList || a.toList == b.toList)))) := by
  simp [dbin, eqGuard, binOp, Op.stringOp, pureRun_bind, pureRun_pure]
theorem bin_sleq (a b : ByteArray) : dbin P .leq t x y (.v (.string a)) (.v (.string b)) = some (True, .v (.bool (Op.bytesLess a.toList b.toList || a.toList == b.toList))) := by
  simp [dbin, eqGuard, binOp, Op.stringOp, pureRun_bind, pureRun_pure]
theorem bin_sgeq (a b : ByteArray) : dbin P .geq t x y (.v (.string a)) (.v (.string b)) = some (True, .v (.bool (!Op.bytesLess a.toList b.toList))) := by
  simp [dbin, eqGuard, binOp, Op.stringOp, pureRun_bind, pureRun_pure]
theorem un_not (b : Bool) : pureRun P (Op.unary .not (.bool b)) = some (.bool (!b)) := Eq.trans (Eq.refl _) (Eq.refl _)
theorem un_neg (k : IntKind) (n : Int) : pureRun P (Op.unary .neg (.int k n)) = some (.int k (k.wrap (0 - n))) := Eq.trans (Eq.refl _) (Eq.refl _)
theorem bu_len (own : Own) (es : List D) (t ty : TypeId) (cs : Array Bool) {e : TypeId} (h : elT P t = some e) : dbuiltin P .len #[t] ty cs [.sl own es] = some (True, .v (.int .i64 es.length)) := by
  simp [dbuiltin, vals, dlen, h]
theorem bu_wlen (k off n c : Nat) (t ty : TypeId) (cs : Array Bool) {e : TypeId} (h : elT P t = some e) : dbuiltin P .len #[t] ty cs [.win k off n c] = some (True, .v (.int .i64 n)) := by
  simp [dbuiltin, vals, dlen, h]
theorem bu_wcap (k off n c : Nat) (t ty : TypeId) (cs : Array Bool) {e : TypeId} (h : elT P t = some e) : dbuiltin P .cap #[t] ty cs [.win k off n c] = some (True, .v (.int .i64 c)) := by
  simp [dbuiltin, vals, dlen, h]
theorem bu_max (k : IntKind) (a b : Int) (ts : Array TypeId) (ty : TypeId) (cs : Array Bool) : dbuiltin P .max ts ty cs [.v (.int k a), .v (.int k b)] = some (True, .v (.int k (if a < b then b else a))) := by
  simp [dbuiltin, vals, builtin, Builtin.max_, Builtin.max2, pureRun_bind, pureRun_pure]
theorem bu_min (k : IntKind) (a b : Int) (ts : Array TypeId) (ty : TypeId) (cs : Array Bool) : dbuiltin P .min ts ty cs [.v (.int k a), .v (.int k b)] = some (True, .v (.int k (if b < a then b else a))) := by
  simp [dbuiltin, vals, builtin, Builtin.min_, Builtin.min2, pureRun_bind, pureRun_pure]
end

/-! The walk, step by step; what follows stands behind a name till it is come to. -/
section
variable {P : Program} {Q : DQ} {f : Fm} {S : St}
def dwpF (P : Program) (c : Code) (Q : DQ) (f : Fm) (S : St) : Prop := dwp P c Q f S
def dIf (c : D) (x y : Prop) : Prop := match c with
  | .v (.bool b) => (b = true → x) ∧ (b = false → y)
  | _ => False
theorem dwp_skip : dwp P .skip Q f S = Q .normal f S := Eq.trans (Eq.refl _) (Eq.refl _)
theorem dwp_label (l : Nat) : dwp P (.label l) Q f S = Q .normal f S := Eq.trans (Eq.refl _) (Eq.refl _)
theorem dwp_exit (i : Nat) : dwp P (.exit i) Q f S = Q (.exit i) f S := Eq.trans (Eq.refl _) (Eq.refl _)
theorem dwp_ret : dwp P .ret Q f S = Q .ret f S := Eq.trans (Eq.refl _) (Eq.refl _)
theorem dwp_seq (x y : Code) : dwp P (.seq x y) Q f S = dwp P x (DQ.then (dwp P y Q) Q) f S := Eq.trans (Eq.refl _) (Eq.refl _)
theorem dwp_block (id : Nat) (c : Code) : dwp P (.block id c) Q f S = dwp P c (DQ.block id Q) f S := Eq.trans (Eq.refl _) (Eq.refl _)
theorem dwp_loop (c : Code) : dwp P (.loop c) Q f S = DLoop (dwp P c) Q f S := Eq.trans (Eq.refl _) (Eq.refl _)
theorem dwp_cond (c : Operand) (x y : Code) : dwp P (.cond c x y) Q f S = dIf (ev f c) (dwpF P x Q f S) (dwpF P y Q f S) := by
  unfold dwp dIf dwpF
  rfl
theorem dwp_region (id : Nat) (l : List Oper) : dwp P (.region id (List.toArray l) false) Q f S = dops P (List.toArray l) (Q .normal) l f S := Eq.trans (Eq.refl _) (Eq.refl _)
theorem dwp_draw (id : Nat) (l : List Oper) : dwp P (.region id (List.toArray l) true) Q f S = ddraw P l (Q .normal) f S := Eq.trans (Eq.refl _) (Eq.refl _)
theorem then_normal (k : Fm → St → Prop) : DQ.then k Q .normal f S = k f S := Eq.trans (Eq.refl _) (Eq.refl _)
theorem then_exit (k : Fm → St → Prop) (i : Nat) : DQ.then k Q (.exit i) f S = Q (.exit i) f S := Eq.trans (Eq.refl _) (Eq.refl _)
theorem then_ret (k : Fm → St → Prop) : DQ.then k Q .ret f S = Q .ret f S := Eq.trans (Eq.refl _) (Eq.refl _)
theorem block_normal (id : Nat) : DQ.block id Q .normal f S = Q .normal f S := Eq.trans (Eq.refl _) (Eq.refl _)
theorem block_ret (id : Nat) : DQ.block id Q .ret f S = Q .ret f S := Eq.trans (Eq.refl _) (Eq.refl _)
theorem block_eq (id : Nat) : DQ.block id Q (.exit id) f S = Q .normal f S := by simp [DQ.block]
theorem block_ne (i id : Nat) (h : (i == id) = false) : DQ.block id Q (.exit i) f S = Q (.exit i) f S := by
  have : Nat.beq i id = false := by
    cases hb : Nat.beq i id with
    | false => rfl
    | true => rw [Nat.eq_of_beq_eq_true hb] at h; simp at h
  simp [DQ.block, this]
def dnext (P : Program) (ops : Array Oper) (R : Fm → St → Prop) (r : List Oper) (f : Fm) (dst : Option Tmp) (d : D) (S : St) : Prop := dops P ops R r (put f dst d) S
theorem dnext_eq (ops : Array Oper) (R : Fm → St → Prop) (r : List Oper) (dst : Option Tmp) (d : D) : dnext P ops R r f dst d S = dops P ops R r (put f dst d) S := Eq.trans (Eq.refl _) (Eq.refl _)
def dskip (P : Program) (ops : Array Oper) (R : Fm → St → Prop) (r : List Oper) (f : Fm) (dst : Option Tmp) (S : St) : Prop := dops P ops R r (put f dst undefD) S
def dopF (P : Program) (f : Fm) (S : St) (ty : TypeId) (op : Op) (K : D → St → Prop) : Prop := dop P f S ty op K
def gtmp : List Oper → Nat → Option Tmp
  | [], _ => none
  | o :: _, 0 => o.dst
  | _ :: l, n + 1 => gtmp l n
theorem gtmp_eq : ∀ (l : List Oper) (n : Nat), ((List.toArray l)[n]?).bind (·.dst) = gtmp l n
  | [], n => by simp [gtmp]
  | o :: l, 0 => by simp [gtmp]
  | o :: l, n + 1 => by have := gtmp_eq l n; simpa [gtmp] using this
theorem gtmp_zero (dst : Option Tmp) (op : Op) (ty : TypeId) (pos : String) (after : Array Edge) (g : Option (Nat × Bool)) (l : List Oper) : gtmp (⟨dst, op, ty, pos, after, g⟩ :: l) 0 = dst := Eq.trans (Eq.refl _) (Eq.refl _)
theorem gtmp_succ (o : Oper) (l : List Oper) (n : Nat) : gtmp (o :: l) (n + 1) = gtmp l n := Eq.trans (Eq.refl _) (Eq.refl _)
def dguardT (t : Option Tmp) (f : Fm) (want : Bool) (y n : Prop) : Prop := match t with
  | some t => match f t with
    | .v (.bool b) => (b = want → y) ∧ (b = !want → n)
    | .tup [] => n
    | _ => False
  | none => False
def dguard (x : D) (want : Bool) (y n : Prop) : Prop := match x with
  | .v (.bool b) => (b = want → y) ∧ (b = !want → n)
  | .tup [] => n
  | _ => False
theorem dguardT_some (t : Tmp) (want : Bool) (y n : Prop) : dguardT (some t) f want y n = dguard (f t) want y n := Eq.trans (Eq.refl _) (Eq.refl _)
section
variable {y n : Prop} {ty : TypeId} {op : Op} {K : D → St → Prop} {ops : Array Oper} {R : Fm → St → Prop} {r : List Oper} {dst : Option Tmp}
theorem dg_tt : dguard (.v (.bool true)) true (dopF P f S ty op K) n = dop P f S ty op K := by simp [dguard, dopF]
theorem dg_ff : dguard (.v (.bool false)) false (dopF P f S ty op K) n = dop P f S ty op K := by simp [dguard, dopF]
theorem dg_tf : dguard (.v (.bool true)) false y (dskip P ops R r f dst S) = dops P ops R r (put f dst undefD) S := by simp [dguard, dskip]
theorem dg_ft : dguard (.v (.bool false)) true y (dskip P ops R r f dst S) = dops P ops R r (put f dst undefD) S := by simp [dguard, dskip]
theorem dg_no (want : Bool) : dguard undefD want y (dskip P ops R r f dst S) = dops P ops R r (put f dst undefD) S := Eq.trans (Eq.refl _) (Eq.refl _)
end
theorem dIf_t (x : Code) (Y : Prop) : dIf (.v (.bool true)) (dwpF P x Q f S) Y = dwp P x Q f S := by simp [dIf, dwpF]
theorem dIf_f (y : Code) (X : Prop) : dIf (.v (.bool false)) X (dwpF P y Q f S) = dwp P y Q f S := by simp [dIf, dwpF]
theorem dops_nil (ops : Array Oper) (R : Fm → St → Prop) : dops P ops R [] f S = R f S := Eq.trans (Eq.refl _) (Eq.refl _)
theorem dops_plain (ops : Array Oper) (R : Fm → St → Prop) (r : List Oper) (dst : Option Tmp) (op : Op) (ty : TypeId) (pos : String) (after : Array Edge) : dops P ops R (⟨dst, op, ty, pos, after, none⟩ :: r) f S = dop P f S ty op (dnext P ops R r f dst) := Eq.trans (Eq.refl _) (Eq.refl _)
theorem dops_guard (l : List Oper) (R : Fm → St → Prop) (r : List Oper) (dst : Option Tmp) (op : Op) (ty : TypeId) (pos : String) (after : Array Edge) (j : Nat) (want : Bool) :
    dops P (List.toArray l) R (⟨dst, op, ty, pos, after, some (j, want)⟩ :: r) f S = dguardT (gtmp l j) f want (dopF P f S ty op (dnext P (List.toArray l) R r f dst)) (dskip P (List.toArray l) R r f dst S) := by
  rw [← gtmp_eq]; rfl
def onValS (o : Option (Prop × D)) (K : D → St → Prop) (S : St) : Prop := match o with
  | some (c, d) => c ∧ K d S
  | none => False
theorem onValS_some (c : Prop) (d : D) (K : D → St → Prop) : onValS (some (c, d)) K S = (c ∧ K d S) := Eq.trans (Eq.refl _) (Eq.refl _)
theorem onVal_some (c : Prop) (d : D) (K : D → Prop) : onVal (some (c, d)) K = (c ∧ K d) := Eq.trans (Eq.refl _) (Eq.refl _)
theorem dop_move {ty : TypeId} {K : D → St → Prop} (x : Operand) : dop P f S ty (.move x) K = onValS (dval P f S ty (.move x)) K S := by
  unfold dop; exact Eq.trans (Eq.refl _) (Eq.refl _)
theorem dop_assign {ty : TypeId} {K : D → St → Prop} (x : Operand) : dop P f S ty (.assign x) K = onValS (dval P f S ty (.assign x)) K S := by
  unfold dop; exact Eq.trans (Eq.refl _) (Eq.refl _)
theorem dop_pick {ty : TypeId} {K : D → St → Prop} (c x y : Operand) : dop P f S ty (.pick c x y) K = onValS (dval P f S ty (.pick c x y)) K S := by
  unfold dop; exact Eq.trans (Eq.refl _) (Eq.refl _)
theorem dop_load {ty : TypeId} {K : D → St → Prop} (t : TypeId) (x : Operand) : dop P f S ty (.load t x) K = onValS (dval P f S ty (.load t x)) K S := by
  unfold dop; exact Eq.trans (Eq.refl _) (Eq.refl _)
theorem dop_fieldAddr {ty : TypeId} {K : D → St → Prop} (t : TypeId) (x : Operand) (i : Nat) : dop P f S ty (.fieldAddr t x i) K = onValS (dval P f S ty (.fieldAddr t x i)) K S := by
  unfold dop; exact Eq.trans (Eq.refl _) (Eq.refl _)
theorem dop_field {ty : TypeId} {K : D → St → Prop} (t : TypeId) (x : Operand) (i : Nat) : dop P f S ty (.field t x i) K = onValS (dval P f S ty (.field t x i)) K S := by
  unfold dop; exact Eq.trans (Eq.refl _) (Eq.refl _)
theorem dop_indexAddr {ty : TypeId} {K : D → St → Prop} (t : TypeId) (x i : Operand) : dop P f S ty (.indexAddr t x i) K = onValS (dval P f S ty (.indexAddr t x i)) K S := by
  unfold dop; exact Eq.trans (Eq.refl _) (Eq.refl _)
theorem dop_index {ty : TypeId} {K : D → St → Prop} (t : TypeId) (x i : Operand) : dop P f S ty (.index t x i) K = onValS (dval P f S ty (.index t x i)) K S := by
  unfold dop; exact Eq.trans (Eq.refl _) (Eq.refl _)
theorem dop_extract {ty : TypeId} {K : D → St → Prop} (x : Operand) (i : Nat) : dop P f S ty (.extract x i) K = onValS (dval P f S ty (.extract x i)) K S := by
  unfold dop; exact Eq.trans (Eq.refl _) (Eq.refl _)
theorem dop_makeFunc {ty : TypeId} {K : D → St → Prop} (fn : Fn) (fs cs : Array Operand) : dop P f S ty (.makeFunc fn fs cs) K = onValS (dval P f S ty (.makeFunc fn fs cs)) K S := by
  unfold dop; exact Eq.trans (Eq.refl _) (Eq.refl _)
theorem dop_makeInterface {ty : TypeId} {K : D → St → Prop} (t : TypeId) (x : Operand) : dop P f S ty (.makeInterface t x) K = onValS (dval P f S ty (.makeInterface t x)) K S := by
  unfold dop; exact Eq.trans (Eq.refl _) (Eq.refl _)
theorem dop_nilCheck {ty : TypeId} {K : D → St → Prop} (x : Operand) : dop P f S ty (.nilCheck x) K = onValS (dval P f S ty (.nilCheck x)) K S := by
  unfold dop; exact Eq.trans (Eq.refl _) (Eq.refl _)
theorem dop_slice {ty : TypeId} {K : D → St → Prop} (t : TypeId) (x : Operand) (lo hi mx : Option Operand) : dop P f S ty (.slice t x lo hi mx) K = onValS (dval P f S ty (.slice t x lo hi mx)) K S := by
  unfold dop; exact Eq.trans (Eq.refl _) (Eq.refl _)
theorem dop_binOp {ty : TypeId} {K : D → St → Prop} (op : BinOp) (t : TypeId) (x y : Operand) (u : TypeId) : dop P f S ty (.binOp op t x y u) K = onValS (dval P f S ty (.binOp op t x y u)) K S := by
  unfold dop; exact Eq.trans (Eq.refl _) (Eq.refl _)
theorem dop_unOp {ty : TypeId} {K : D → St → Prop} (op : UnOp) (t : TypeId) (x : Operand) : dop P f S ty (.unOp op t x) K = onValS (dval P f S ty (.unOp op t x)) K S := by
  unfold dop; exact Eq.trans (Eq.refl _) (Eq.refl _)
theorem dop_convert {ty : TypeId} {K : D → St → Prop} (s t : TypeId) (x : Operand) : dop P f S ty (.convert s t x) K = onValS (orD (dnew P f S (.convert s t x)) (dval P f S ty (.convert s t x))) K S := by
  unfold dop; exact Eq.trans (Eq.refl _) (Eq.refl _)
theorem dop_b_len {ty : TypeId} {K : D → St → Prop} (args : Array Operand) (ts : Array TypeId) : dop P f S ty (.call ⟨.builtin .len, args, ts⟩) K = onValS (dval P f S ty (.call ⟨.builtin .len, args, ts⟩)) K S := by
  unfold dop; exact Eq.trans (Eq.refl _) (Eq.refl _)
theorem dop_b_cap {ty : TypeId} {K : D → St → Prop} (args : Array Operand) (ts : Array TypeId) : dop P f S ty (.call ⟨.builtin .cap, args, ts⟩) K = onValS (dval P f S ty (.call ⟨.builtin .cap, args, ts⟩)) K S := by
  unfold dop; exact Eq.trans (Eq.refl _) (Eq.refl _)
theorem dop_b_min {ty : TypeId} {K : D → St → Prop} (args : Array Operand) (ts : Array TypeId) : dop P f S ty (.call ⟨.builtin .min, args, ts⟩) K = onValS (dval P f S ty (.call ⟨.builtin .min, args, ts⟩)) K S := by
  unfold dop; exact Eq.trans (Eq.refl _) (Eq.refl _)
theorem dop_b_max {ty : TypeId} {K : D → St → Prop} (args : Array Operand) (ts : Array TypeId) : dop P f S ty (.call ⟨.builtin .max, args, ts⟩) K = onValS (dval P f S ty (.call ⟨.builtin .max, args, ts⟩)) K S := by
  unfold dop; exact Eq.trans (Eq.refl _) (Eq.refl _)
theorem dop_buildSlice {ty : TypeId} {K : D → St → Prop} (t : TypeId) (n : Nat) (ps : Array (Nat × Operand)) : dop P f S ty (.buildSlice t n ps) K = onValS (dnew P f S (.buildSlice t n ps)) K S := by
  unfold dop; exact Eq.trans (Eq.refl _) (Eq.refl _)
theorem dop_build {ty : TypeId} {K : D → St → Prop} (t : TypeId) (ps : Array (Nat × Operand)) : dop P f S ty (.build t ps) K = onValS (dnew P f S (.build t ps)) K S := by
  unfold dop; exact Eq.trans (Eq.refl _) (Eq.refl _)
theorem dop_alloc {ty : TypeId} {K : D → St → Prop} (t : TypeId) : dop P f S ty (.alloc t) K = (zeroOk P t = true ∧ K (.loc S.next 0) (S.add (.box t (zeroD P t)))) := Eq.trans (Eq.refl _) (Eq.refl _)
theorem dop_box {ty : TypeId} {K : D → St → Prop} (t : TypeId) (x : Operand) : dop P f S ty (.box t x) K = ((ev f x).okCell = true ∧ K (.loc S.next 0) (S.add (.box t (ev f x).cells))) := Eq.trans (Eq.refl _) (Eq.refl _)
def dstore (P : Program) (S : St) (t : TypeId) (x y : D) (K : D → St → Prop) : Prop := match x with
  | .loc k off => match S.ob k with
    | some (.box t' cs) => y.okCell = true ∧ (P.info? t).isSome = true ∧ y.width = szOf P t ∧ off + szOf P t ≤ cs.length ∧ K undefD (S.set k (.box t' (splice cs off y.cells)))
    | _ => False
  | _ => False
theorem dop_store {ty : TypeId} {K : D → St → Prop} (t : TypeId) (x y : Operand) : dop P f S ty (.store t x y) K = dstore P S t (ev f x) (ev f y) K := Eq.trans (Eq.refl _) (Eq.refl _)
def dcall (P : Program) (S : St) (x : D) (args : List D) (K : D → St → Prop) : Prop := match x with
  | .fn (.func g) fs cs => DCalls P g (fs ++ args ++ cs) S K
  | _ => False
theorem dcall_fn (g : FuncId) (fs args cs : List D) (K : D → St → Prop) : dcall P S (.fn (.func g) fs cs) args K = DCalls P g (fs ++ args ++ cs) S K := Eq.trans (Eq.refl _) (Eq.refl _)
theorem dop_call {ty : TypeId} {K : D → St → Prop} (x : Operand) (args : List Operand) (ts : Array TypeId) : dop P f S ty (.call ⟨.value x, List.toArray args, ts⟩) K = dcall P S (ev f x) (args.map (ev f)) K := Eq.trans (Eq.refl _) (Eq.refl _)
def dappend (P : Program) (S : St) (t tx : TypeId) (x y : D) (K : D → St → Prop) : Prop := match x, y with
  | .sl own es, .sl _ es2 => match elT P t with
    | some e => (elT P tx).isSome = true ∧ zeroT P e = true ∧ (∀ d ∈ es, d.width = szOf P e) ∧ (∀ d ∈ es2, d.width = szOf P e) ∧ (match own with | .full => True | .row g => S.ob g = some (.row e es.length) | .no => False) ∧ es.length + es2.length ≤ 140737488355328 ∧ (es.length + es2.length) * bytesOf P e ≤ 140737488355328 ∧ K (.sl (.row S.next) (es ++ es2)) (S.grow own e (es.length + es2.length))
    | none => False
  | _, _ => False
def dapp (P : Program) (S : St) (t tx : TypeId) (ty : TypeId) (x y : D) (K : D → St → Prop) : Prop := match x with
  | .win k off n c => DRun P (fun vs => Builtin.append_ #[t, tx] ty vs.toArray) [.win k off n c, y] S K
  | x => dappend P S t tx x y K ∨ match x, y with
    | .sl own es, .sl o2 es2 => match elT P t with
      | some e => appWin P S e tx own es es2 K ∨ DRun P (fun vs => Builtin.append_ #[t, tx] ty vs.toArray) [.sl own es, .sl o2 es2] S K
      | none => False
    | _, _ => False
theorem dapp_row {t tx ty : TypeId} {own : Own} {es : List D} {y : D} {K : D → St → Prop} (h : dappend P S t tx (.sl own es) y K) : dapp P S t tx ty (.sl own es) y K := .inl h
theorem dapp_step {t tx ty : TypeId} {own o2 : Own} {es es2 : List D} {e : TypeId} {K : D → St → Prop} (he : elT P t = some e) (h : DRun P (fun vs => Builtin.append_ #[t, tx] ty vs.toArray) [.sl own es, .sl o2 es2] S K) : dapp P S t tx ty (.sl own es) (.sl o2 es2) K := .inr (by simp only [he]; exact .inr h)
theorem dop_append {ty : TypeId} {K : D → St → Prop} (x y : Operand) (t tx : TypeId) : dop P f S ty (.call ⟨.builtin .append, #[x, y], #[t, tx]⟩) K = dapp P S t tx ty (ev f x) (ev f y) K := by
  simp only [dop, List.map_cons, List.map_nil]
  generalize ev f x = a
  generalize ev f y = b
  cases a <;> first | rfl | (simp only [dapp, dappend]; cases he : elT P t <;> cases b <;> (try simp only [he, or_false, false_or, or_self]) <;> rfl)
def dcopy (P : Program) (ts : Array TypeId) (ty : TypeId) (x y : D) (S : St) (K : D → St → Prop) : Prop := DRun P (fun vs => Builtin.copy_ ts ty vs.toArray) [x, y] S K
theorem dop_copy {ty : TypeId} {K : D → St → Prop} (x y : Operand) (ts : Array TypeId) : dop P f S ty (.call ⟨.builtin .copy, #[x, y], ts⟩) K = dcopy P ts ty (ev f x) (ev f y) S K := Eq.trans (Eq.refl _) (Eq.refl _)
def dclear (P : Program) (ts : Array TypeId) (ty : TypeId) (x : D) (S : St) (K : D → St → Prop) : Prop := DRun P (fun vs => Builtin.clear_ ts ty vs.toArray) [x] S K
theorem dop_clear {ty : TypeId} {K : D → St → Prop} (x : Operand) (ts : Array TypeId) : dop P f S ty (.call ⟨.builtin .clear, #[x], ts⟩) K = dclear P ts ty (ev f x) S K := Eq.trans (Eq.refl _) (Eq.refl _)
theorem list_of_array {α : Type} (l : List α) : (List.toArray l).toList = l := Eq.trans (Eq.refl _) (Eq.refl _)
theorem add_next (S : St) (o : Ob) : (S.add o).next = S.next + 1 := Eq.trans (Eq.refl _) (Eq.refl _)
theorem add_ob (S : St) (o : Ob) (k : Nat) : (S.add o).ob k = if k = S.next then some o else S.ob k := Eq.trans (Eq.refl _) (Eq.refl _)
theorem set_next (S : St) (k : Nat) (o : Ob) : (S.set k o).next = S.next := Eq.trans (Eq.refl _) (Eq.refl _)
theorem set_ob (S : St) (k j : Nat) (o : Ob) : (S.set k o).ob j = if j = k then some o else S.ob j := Eq.trans (Eq.refl _) (Eq.refl _)
theorem grow_next (S : St) (own : Own) (e : TypeId) (n : Nat) : (S.grow own e n).next = S.next + 1 := by cases own <;> rfl
theorem grow_full_ob (S : St) (e : TypeId) (n k : Nat) : (S.grow .full e n).ob k = if k = S.next then some (.row e n) else S.ob k := Eq.trans (Eq.refl _) (Eq.refl _)
theorem grow_row_ob (S : St) (g : Nat) (e : TypeId) (n k : Nat) : (S.grow (.row g) e n).ob k = if k = S.next then some (.row e n) else if k = g then none else S.ob k := Eq.trans (Eq.refl _) (Eq.refl _)
theorem getD_map {α : Type} (g : α → D) (l : List α) (i : Nat) (h : i < l.length) : (l.map g).getD i undefD = g l[i] := by simp [List.getD, h]
/-! Ends. -/
theorem pfin_ret (t : Tmp) (S' : St) (d : D) : DQ.pfin P [.tmp t] S d .ret f S' = PFin S S' (f t) d := by
  simp [DQ.pfin, dresL, dres, onVal, one]
theorem pfin_normal (t : Tmp) (S' : St) (d : D) : DQ.pfin P [.tmp t] S d .normal f S' = PFin S S' (f t) d := by
  simp [DQ.pfin, dresL, dres, onVal, one]
theorem pfin_ret2 (t u : Tmp) (S' : St) (d : D) : DQ.pfin P [.tmp t, .tmp u] S d .ret f S' = PFin S S' (.tup [f t, f u]) d := by
  simp [DQ.pfin, dresL, dres, onVal, one]
theorem pfin_normal2 (t u : Tmp) (S' : St) (d : D) : DQ.pfin P [.tmp t, .tmp u] S d .normal f S' = PFin S S' (.tup [f t, f u]) d := by
  simp [DQ.pfin, dresL, dres, onVal, one]
end

/-! A region that draws its order. -/
section
variable {P : Program} {f : Fm} {S : St}
def hnext (P : Program) (ops : Array Oper) (S : St) (R : Fm → St → Prop) (r : List Oper) (f : Fm) (dst : Option Tmp) (u : Option Ob) (d : D) : Prop := dhead P ops S R r (put f dst d) u
theorem hnext_eq (ops : Array Oper) (R : Fm → St → Prop) (r : List Oper) (dst : Option Tmp) (u : Option Ob) (d : D) : hnext P ops S R r f dst u d = dhead P ops S R r (put f dst d) u := Eq.trans (Eq.refl _) (Eq.refl _)
def hnextN (P : Program) (ops : Array Oper) (S : St) (R : Fm → St → Prop) (r : List Oper) (f : Fm) (dst : Option Tmp) (d : D) (u : Option Ob) : Prop := dhead P ops S R r (put f dst d) u
theorem hnextN_eq (ops : Array Oper) (R : Fm → St → Prop) (r : List Oper) (dst : Option Tmp) (u : Option Ob) (d : D) : hnextN P ops S R r f dst d u = dhead P ops S R r (put f dst d) u := Eq.trans (Eq.refl _) (Eq.refl _)
def hAt (K : D → Option Ob → Prop) (u : Option Ob) (d : D) : Prop := K d u
theorem hAt_eq (K : D → Option Ob → Prop) (u : Option Ob) (d : D) : hAt K u d = K d u := Eq.trans (Eq.refl _) (Eq.refl _)
def hskip (P : Program) (ops : Array Oper) (S : St) (R : Fm → St → Prop) (r : List Oper) (f : Fm) (dst : Option Tmp) (u : Option Ob) : Prop := dhead P ops S R r (put f dst undefD) u
def dquietF (P : Program) (f : Fm) (S : St) (ty : TypeId) (op : Op) (K : D → Prop) : Prop := dquiet P f S ty op K
def dtail (P : Program) (l : List Oper) (R : Fm → St → Prop) (n : Nat) (f : Fm) (S : St) : Prop := dops P (List.toArray l) R (l.drop n) f S
theorem dtail_eq (l : List Oper) (R : Fm → St → Prop) (n : Nat) : dtail P l R n f S = dops P (List.toArray l) R (l.drop n) f S := Eq.trans (Eq.refl _) (Eq.refl _)
theorem ddraw_mk (n : Nat) {l : List Oper} {R : Fm → St → Prop} (h : drawOk l n = true) (k : dhead P (List.toArray (l.take n)) S (dtail P l R n) (l.take n) f none) : ddraw P l R f S := .inl ⟨n, h, k⟩
theorem ddraw_any (Zs : St → Prop) (n : Nat) {l : List Oper} {R : Fm → St → Prop} (hz : Zs S) (h : (n == l.length || heldTailB l n) = true) (k : sAny P .any (List.toArray (l.take n)) Zs (dtail P l R n) (List.toArray (l.take n)).size (Array.replicate (List.toArray (l.take n)).size false) f S) : ddraw P l R f S := .inr ⟨Zs, n, hz, h, k⟩
theorem after_none (S : St) : after S none = S := Eq.trans (Eq.refl _) (Eq.refl _)
theorem after_some (S : St) (b : Ob) : after S (some b) = S.add b := Eq.trans (Eq.refl _) (Eq.refl _)
theorem dhead_nil (ops : Array Oper) (R : Fm → St → Prop) (u : Option Ob) : dhead P ops S R [] f u = R f (after S u) := Eq.trans (Eq.refl _) (Eq.refl _)
theorem dhead_plain (ops : Array Oper) (R : Fm → St → Prop) (r : List Oper) (dst : Option Tmp) (op : Op) (ty : TypeId) (pos : String) (aft : Array Edge) (u : Option Ob) : dhead P ops S R (⟨dst, op, ty, pos, aft, none⟩ :: r) f u = hop P f S u ty op (hnextN P ops S R r f dst) := Eq.trans (Eq.refl _) (Eq.refl _)
theorem dhead_guard (l : List Oper) (R : Fm → St → Prop) (r : List Oper) (dst : Option Tmp) (op : Op) (ty : TypeId) (pos : String) (aft : Array Edge) (j : Nat) (want : Bool) (u : Option Ob) :
    dhead P (List.toArray l) S R (⟨dst, op, ty, pos, aft, some (j, want)⟩ :: r) f u = dguardT (gtmp l j) f want (dquietF P f S ty op (hnext P (List.toArray l) S R r f dst u)) (hskip P (List.toArray l) S R r f dst u) := by
  rw [← gtmp_eq]; rfl
theorem hop_alloc {ty : TypeId} {K : D → Option Ob → Prop} (t : TypeId) : hop P f S none ty (.alloc t) K = (zeroOk P t = true ∧ K (.loc S.next 0) (some (.box t (zeroD P t)))) := by simp [hop]
theorem hop_box {ty : TypeId} {K : D → Option Ob → Prop} (t : TypeId) (x : Operand) : hop P f S none ty (.box t x) K = ((ev f x).okCell = true ∧ K (.loc S.next 0) (some (.box t (ev f x).cells))) := by simp [hop]
theorem hop_call {ty : TypeId} {K : D → Option Ob → Prop} {uo : Option Ob} (x : Operand) (args : List Operand) (ts : Array TypeId) : hop P f S uo ty (.call ⟨.value x, List.toArray args, ts⟩) K = dquiet P f S ty (.call ⟨.value x, List.toArray args, ts⟩) (hAt K uo) := Eq.trans (Eq.refl _) (Eq.refl _)
theorem hop_append {ty : TypeId} {K : D → Option Ob → Prop} {uo : Option Ob} (args : Array Operand) (ts : Array TypeId) : hop P f S uo ty (.call ⟨.builtin .append, args, ts⟩) K = dquiet P f S ty (.call ⟨.builtin .append, args, ts⟩) (hAt K uo) := Eq.trans (Eq.refl _) (Eq.refl _)
theorem hop_buildSlice {ty : TypeId} {K : D → Option Ob → Prop} {uo : Option Ob} (t : TypeId) (n : Nat) (ps : Array (Nat × Operand)) : hop P f S uo ty (.buildSlice t n ps) K = dquiet P f S ty (.buildSlice t n ps) (hAt K uo) := Eq.trans (Eq.refl _) (Eq.refl _)
theorem hop_build {ty : TypeId} {K : D → Option Ob → Prop} {uo : Option Ob} (t : TypeId) (ps : Array (Nat × Operand)) : hop P f S uo ty (.build t ps) K = dquiet P f S ty (.build t ps) (hAt K uo) := Eq.trans (Eq.refl _) (Eq.refl _)
theorem hop_move {ty : TypeId} {K : D → Option Ob → Prop} {uo : Option Ob} (x : Operand) : hop P f S uo ty (.move x) K = dquiet P f S ty (.move x) (hAt K uo) := Eq.trans (Eq.refl _) (Eq.refl _)
theorem hop_assign {ty : TypeId} {K : D → Option Ob → Prop} {uo : Option Ob} (x : Operand) : hop P f S uo ty (.assign x) K = dquiet P f S ty (.assign x) (hAt K uo) := Eq.trans (Eq.refl _) (Eq.refl _)
theorem hop_pick {ty : TypeId} {K : D → Option Ob → Prop} {uo : Option Ob} (c x y : Operand) : hop P f S uo ty (.pick c x y) K = dquiet P f S ty (.pick c x y) (hAt K uo) := Eq.trans (Eq.refl _) (Eq.refl _)
theorem hop_load {ty : TypeId} {K : D → Option Ob → Prop} {uo : Option Ob} (t : TypeId) (x : Operand) : hop P f S uo ty (.load t x) K = dquiet P f S ty (.load t x) (hAt K uo) := Eq.trans (Eq.refl _) (Eq.refl _)
theorem hop_fieldAddr {ty : TypeId} {K : D → Option Ob → Prop} {uo : Option Ob} (t : TypeId) (x : Operand) (i : Nat) : hop P f S uo ty (.fieldAddr t x i) K = dquiet P f S ty (.fieldAddr t x i) (hAt K uo) := Eq.trans (Eq.refl _) (Eq.refl _)
theorem hop_field {ty : TypeId} {K : D → Option Ob → Prop} {uo : Option Ob} (t : TypeId) (x : Operand) (i : Nat) : hop P f S uo ty (.field t x i) K = dquiet P f S ty (.field t x i) (hAt K uo) := Eq.trans (Eq.refl _) (Eq.refl _)
theorem hop_indexAddr {ty : TypeId} {K : D → Option Ob → Prop} {uo : Option Ob} (t : TypeId) (x i : Operand) : hop P f S uo ty (.indexAddr t x i) K = dquiet P f S ty (.indexAddr t x i) (hAt K uo) := Eq.trans (Eq.refl _) (Eq.refl _)
theorem hop_index {ty : TypeId} {K : D → Option Ob → Prop} {uo : Option Ob} (t : TypeId) (x i : Operand) : hop P f S uo ty (.index t x i) K = dquiet P f S ty (.index t x i) (hAt K uo) := Eq.trans (Eq.refl _) (Eq.refl _)
theorem hop_extract {ty : TypeId} {K : D → Option Ob → Prop} {uo : Option Ob} (x : Operand) (i : Nat) : hop P f S uo ty (.extract x i) K = dquiet P f S ty (.extract x i) (hAt K uo) := Eq.trans (Eq.refl _) (Eq.refl _)
theorem hop_makeFunc {ty : TypeId} {K : D → Option Ob → Prop} {uo : Option Ob} (fn : Fn) (fs cs : Array Operand) : hop P f S uo ty (.makeFunc fn fs cs) K = dquiet P f S ty (.makeFunc fn fs cs) (hAt K uo) := Eq.trans (Eq.refl _) (Eq.refl _)
theorem hop_makeInterface {ty : TypeId} {K : D → Option Ob → Prop} {uo : Option Ob} (t : TypeId) (x : Operand) : hop P f S uo ty (.makeInterface t x) K = dquiet P f S ty (.makeInterface t x) (hAt K uo) := Eq.trans (Eq.refl _) (Eq.refl _)
theorem hop_nilCheck {ty : TypeId} {K : D → Option Ob → Prop} {uo : Option Ob} (x : Operand) : hop P f S uo ty (.nilCheck x) K = dquiet P f S ty (.nilCheck x) (hAt K uo) := Eq.trans (Eq.refl _) (Eq.refl _)
theorem hop_slice {ty : TypeId} {K : D → Option Ob → Prop} {uo : Option Ob} (t : TypeId) (x : Operand) (lo hi mx : Option Operand) : hop P f S uo ty (.slice t x lo hi mx) K = dquiet P f S ty (.slice t x lo hi mx) (hAt K uo) := Eq.trans (Eq.refl _) (Eq.refl _)
theorem hop_binOp {ty : TypeId} {K : D → Option Ob → Prop} {uo : Option Ob} (op : BinOp) (t : TypeId) (x y : Operand) (u : TypeId) : hop P f S uo ty (.binOp op t x y u) K = dquiet P f S ty (.binOp op t x y u) (hAt K uo) := Eq.trans (Eq.refl _) (Eq.refl _)
theorem hop_unOp {ty : TypeId} {K : D → Option Ob → Prop} {uo : Option Ob} (op : UnOp) (t : TypeId) (x : Operand) : hop P f S uo ty (.unOp op t x) K = dquiet P f S ty (.unOp op t x) (hAt K uo) := Eq.trans (Eq.refl _) (Eq.refl _)
theorem hop_convert {ty : TypeId} {K : D → Option Ob → Prop} {uo : Option Ob} (s t : TypeId) (x : Operand) : hop P f S uo ty (.convert s t x) K = dquiet P f S ty (.convert s t x) (hAt K uo) := Eq.trans (Eq.refl _) (Eq.refl _)
theorem hop_b_len {ty : TypeId} {K : D → Option Ob → Prop} {uo : Option Ob} (args : Array Operand) (ts : Array TypeId) : hop P f S uo ty (.call ⟨.builtin .len, args, ts⟩) K = dquiet P f S ty (.call ⟨.builtin .len, args, ts⟩) (hAt K uo) := Eq.trans (Eq.refl _) (Eq.refl _)
theorem hop_b_cap {ty : TypeId} {K : D → Option Ob → Prop} {uo : Option Ob} (args : Array Operand) (ts : Array TypeId) : hop P f S uo ty (.call ⟨.builtin .cap, args, ts⟩) K = dquiet P f S ty (.call ⟨.builtin .cap, args, ts⟩) (hAt K uo) := Eq.trans (Eq.refl _) (Eq.refl _)
theorem hop_b_min {ty : TypeId} {K : D → Option Ob → Prop} {uo : Option Ob} (args : Array Operand) (ts : Array TypeId) : hop P f S uo ty (.call ⟨.builtin .min, args, ts⟩) K = dquiet P f S ty (.call ⟨.builtin .min, args, ts⟩) (hAt K uo) := Eq.trans (Eq.refl _) (Eq.refl _)
theorem hop_b_max {ty : TypeId} {K : D → Option Ob → Prop} {uo : Option Ob} (args : Array Operand) (ts : Array TypeId) : hop P f S uo ty (.call ⟨.builtin .max, args, ts⟩) K = dquiet P f S ty (.call ⟨.builtin .max, args, ts⟩) (hAt K uo) := Eq.trans (Eq.refl _) (Eq.refl _)
section
variable {y n : Prop} {ty : TypeId} {op : Op} {K : D → Prop} {ops : Array Oper} {R : Fm → St → Prop} {r : List Oper} {dst : Option Tmp} {u : Option Ob}
theorem hg_tt : dguard (.v (.bool true)) true (dquietF P f S ty op K) n = dquiet P f S ty op K := by simp [dguard, dquietF]
theorem hg_ff : dguard (.v (.bool false)) false (dquietF P f S ty op K) n = dquiet P f S ty op K := by simp [dguard, dquietF]
theorem hg_tf : dguard (.v (.bool true)) false y (hskip P ops S R r f dst u) = dhead P ops S R r (put f dst undefD) u := by simp [dguard, hskip]
theorem hg_ft : dguard (.v (.bool false)) true y (hskip P ops S R r f dst u) = dhead P ops S R r (put f dst undefD) u := by simp [dguard, hskip]
theorem hg_no (want : Bool) : dguard undefD want y (hskip P ops S R r f dst u) = dhead P ops S R r (put f dst undefD) u := Eq.trans (Eq.refl _) (Eq.refl _)
end
def dqcall (P : Program) (S : St) (x : D) (args : List D) (K : D → Prop) : Prop := match x with
  | .fn (.func g) fs cs => ∃ d, DSt P g (fs ++ args ++ cs) S d ∧ K d
  | _ => False
def dqgo (P : Program) (S : St) (g : FuncId) (args : List D) (K : D → Prop) : Prop := ∃ d, DSt P g args S d ∧ K d
theorem dqcall_fn (g : FuncId) (fs args cs : List D) (K : D → Prop) : dqcall P S (.fn (.func g) fs cs) args K = dqgo P S g (fs ++ args ++ cs) K := Eq.trans (Eq.refl _) (Eq.refl _)
theorem dqgo_mk {g : FuncId} {args : List D} {K : D → Prop} {d : D} (h : DPure P g args d) (k : K d) : dqgo P S g args K := ⟨d, h.st, k⟩
theorem dqgo_at {g : FuncId} {args : List D} {K : D → Prop} {d : D} (h : DSt P g args S d) (k : K d) : dqgo P S g args K := ⟨d, h, k⟩
theorem dq_call {ty : TypeId} {K : D → Prop} (x : Operand) (args : List Operand) (ts : Array TypeId) : dquiet P f S ty (.call ⟨.value x, List.toArray args, ts⟩) K = dqcall P S (ev f x) (args.map (ev f)) K := Eq.trans (Eq.refl _) (Eq.refl _)
theorem dq_append {ty : TypeId} {K : D → Prop} (args : Array Operand) (ts : Array TypeId) : dquiet P f S ty (.call ⟨.builtin .append, args, ts⟩) K = onVal2 (dnew P f S (.call ⟨.builtin .append, args, ts⟩)) (dval P f S ty (.call ⟨.builtin .append, args, ts⟩)) K := Eq.trans (Eq.refl _) (Eq.refl _)
theorem onVal2_some (c : Prop) (d : D) (o : Option (Prop × D)) (K : D → Prop) : onVal2 (some (c, d)) o K = (c ∧ K d) := Eq.trans (Eq.refl _) (Eq.refl _)
theorem dq_buildSlice {ty : TypeId} {K : D → Prop} (t : TypeId) (n : Nat) (ps : Array (Nat × Operand)) : dquiet P f S ty (.buildSlice t n ps) K = onVal2 (dnew P f S (.buildSlice t n ps)) (dval P f S ty (.buildSlice t n ps)) K := Eq.trans (Eq.refl _) (Eq.refl _)
theorem dq_build {ty : TypeId} {K : D → Prop} (t : TypeId) (ps : Array (Nat × Operand)) : dquiet P f S ty (.build t ps) K = onVal2 (dnew P f S (.build t ps)) (dval P f S ty (.build t ps)) K := Eq.trans (Eq.refl _) (Eq.refl _)
theorem dq_move {ty : TypeId} {K : D → Prop} (x : Operand) : dquiet P f S ty (.move x) K = onVal (dval P f S ty (.move x)) K := Eq.trans (Eq.refl _) (Eq.refl _)
theorem dq_assign {ty : TypeId} {K : D → Prop} (x : Operand) : dquiet P f S ty (.assign x) K = onVal (dval P f S ty (.assign x)) K := Eq.trans (Eq.refl _) (Eq.refl _)
theorem dq_pick {ty : TypeId} {K : D → Prop} (c x y : Operand) : dquiet P f S ty (.pick c x y) K = onVal (dval P f S ty (.pick c x y)) K := Eq.trans (Eq.refl _) (Eq.refl _)
theorem dq_load {ty : TypeId} {K : D → Prop} (t : TypeId) (x : Operand) : dquiet P f S ty (.load t x) K = onVal (dval P f S ty (.load t x)) K := Eq.trans (Eq.refl _) (Eq.refl _)
theorem dq_fieldAddr {ty : TypeId} {K : D → Prop} (t : TypeId) (x : Operand) (i : Nat) : dquiet P f S ty (.fieldAddr t x i) K = onVal (dval P f S ty (.fieldAddr t x i)) K := Eq.trans (Eq.refl _) (Eq.refl _)
theorem dq_field {ty : TypeId} {K : D → Prop} (t : TypeId) (x : Operand) (i : Nat) : dquiet P f S ty (.field t x i) K = onVal (dval P f S ty (.field t x i)) K := Eq.trans (Eq.refl _) (Eq.refl _)
theorem dq_indexAddr {ty : TypeId} {K : D → Prop} (t : TypeId) (x i : Operand) : dquiet P f S ty (.indexAddr t x i) K = onVal (dval P f S ty (.indexAddr t x i)) K := Eq.trans (Eq.refl _) (Eq.refl _)
theorem dq_index {ty : TypeId} {K : D → Prop} (t : TypeId) (x i : Operand) : dquiet P f S ty (.index t x i) K = onVal (dval P f S ty (.index t x i)) K := Eq.trans (Eq.refl _) (Eq.refl _)
theorem dq_extract {ty : TypeId} {K : D → Prop} (x : Operand) (i : Nat) : dquiet P f S ty (.extract x i) K = onVal (dval P f S ty (.extract x i)) K := Eq.trans (Eq.refl _) (Eq.refl _)
theorem dq_makeFunc {ty : TypeId} {K : D → Prop} (fn : Fn) (fs cs : Array Operand) : dquiet P f S ty (.makeFunc fn fs cs) K = onVal (dval P f S ty (.makeFunc fn fs cs)) K := Eq.trans (Eq.refl _) (Eq.refl _)
theorem dq_makeInterface {ty : TypeId} {K : D → Prop} (t : TypeId) (x : Operand) : dquiet P f S ty (.makeInterface t x) K = onVal (dval P f S ty (.makeInterface t x)) K := Eq.trans (Eq.refl _) (Eq.refl _)
theorem dq_nilCheck {ty : TypeId} {K : D → Prop} (x : Operand) : dquiet P f S ty (.nilCheck x) K = onVal (dval P f S ty (.nilCheck x)) K := Eq.trans (Eq.refl _) (Eq.refl _)
theorem dq_slice {ty : TypeId} {K : D → Prop} (t : TypeId) (x : Operand) (lo hi mx : Option Operand) : dquiet P f S ty (.slice t x lo hi mx) K = onVal (dval P f S ty (.slice t x lo hi mx)) K := Eq.trans (Eq.refl _) (Eq.refl _)
theorem dq_binOp {ty : TypeId} {K : D → Prop} (op : BinOp) (t : TypeId) (x y : Operand) (u : TypeId) : dquiet P f S ty (.binOp op t x y u) K = onVal (dval P f S ty (.binOp op t x y u)) K := Eq.trans (Eq.refl _) (Eq.refl _)
theorem dq_unOp {ty : TypeId} {K : D → Prop} (op : UnOp) (t : TypeId) (x : Operand) : dquiet P f S ty (.unOp op t x) K = onVal (dval P f S ty (.unOp op t x)) K := Eq.trans (Eq.refl _) (Eq.refl _)
theorem dq_b_len {ty : TypeId} {K : D → Prop} (args : Array Operand) (ts : Array TypeId) : dquiet P f S ty (.call ⟨.builtin .len, args, ts⟩) K = onVal (dval P f S ty (.call ⟨.builtin .len, args, ts⟩)) K := Eq.trans (Eq.refl _) (Eq.refl _)
theorem dq_b_cap {ty : TypeId} {K : D → Prop} (args : Array Operand) (ts : Array TypeId) : dquiet P f S ty (.call ⟨.builtin .cap, args, ts⟩) K = onVal (dval P f S ty (.call ⟨.builtin .cap, args, ts⟩)) K := Eq.trans (Eq.refl _) (Eq.refl _)
theorem dq_b_min {ty : TypeId} {K : D → Prop} (args : Array Operand) (ts : Array TypeId) : dquiet P f S ty (.call ⟨.builtin .min, args, ts⟩) K = onVal (dval P f S ty (.call ⟨.builtin .min, args, ts⟩)) K := Eq.trans (Eq.refl _) (Eq.refl _)
theorem dq_b_max {ty : TypeId} {K : D → Prop} (args : Array Operand) (ts : Array TypeId) : dquiet P f S ty (.call ⟨.builtin .max, args, ts⟩) K = onVal (dval P f S ty (.call ⟨.builtin .max, args, ts⟩)) K := Eq.trans (Eq.refl _) (Eq.refl _)
end
theorem width_len (d : D) : d.width = d.cells.length := Eq.trans (Eq.refl _) (Eq.refl _)
theorem cells_agg_ (cs : List D) : (D.agg cs).cells = cs := Eq.trans (Eq.refl _) (Eq.refl _)
theorem cells_v_ (x : Value) : (D.v x).cells = [D.v x] := Eq.trans (Eq.refl _) (Eq.refl _)
theorem cells_tup_ (cs : List D) : (D.tup cs).cells = [D.tup cs] := Eq.trans (Eq.refl _) (Eq.refl _)
theorem cells_fn_ (g : Fn) (fs cs : List D) : (D.fn g fs cs).cells = [D.fn g fs cs] := Eq.trans (Eq.refl _) (Eq.refl _)
theorem okCell_fn_ (g : Fn) (fs cs : List D) : (D.fn g fs cs).okCell = true := Eq.trans (Eq.refl _) (Eq.refl _)
theorem cells_ifc_ (t : TypeId) (d : D) : (D.ifc t d).cells = [D.ifc t d] := Eq.trans (Eq.refl _) (Eq.refl _)
theorem okCell_ifc_ (t : TypeId) (d : D) : (D.ifc t d).okCell = true := Eq.trans (Eq.refl _) (Eq.refl _)
theorem cells_loc_ (k o : Nat) : (D.loc k o).cells = [D.loc k o] := Eq.trans (Eq.refl _) (Eq.refl _)
theorem okCell_loc_ (k o : Nat) : (D.loc k o).okCell = true := Eq.trans (Eq.refl _) (Eq.refl _)
theorem cells_rd_ (cs : List D) (o : Nat) : (D.rd cs o).cells = [D.rd cs o] := Eq.trans (Eq.refl _) (Eq.refl _)
theorem okCell_rd_ (cs : List D) (o : Nat) : (D.rd cs o).okCell = true := Eq.trans (Eq.refl _) (Eq.refl _)
theorem cells_sl_ (o : Own) (es : List D) : (D.sl o es).cells = [D.sl o es] := Eq.trans (Eq.refl _) (Eq.refl _)
theorem okCell_sl_ (o : Own) (es : List D) : (D.sl o es).okCell = true := Eq.trans (Eq.refl _) (Eq.refl _)
theorem okCell_agg_ (cs : List D) : (D.agg cs).okCell = true := Eq.trans (Eq.refl _) (Eq.refl _)
theorem okCell_bool_ (b : Bool) : (D.v (.bool b)).okCell = true := Eq.trans (Eq.refl _) (Eq.refl _)
theorem okCell_int_ (k : IntKind) (n : Int) : (D.v (.int k n)).okCell = true := Eq.trans (Eq.refl _) (Eq.refl _)
theorem okCell_string_ (s : ByteArray) : (D.v (.string s)).okCell = true := Eq.trans (Eq.refl _) (Eq.refl _)
theorem okCell_pointer_ (x : Option Addr) : (D.v (.pointer x)).okCell = true := Eq.trans (Eq.refl _) (Eq.refl _)
theorem okCell_slice_ (x : Option Addr) (n m : Nat) : (D.v (.slice x n m)).okCell = true := Eq.trans (Eq.refl _) (Eq.refl _)
theorem okCell_nilFunc_  : (D.v (.nilFunc)).okCell = true := Eq.trans (Eq.refl _) (Eq.refl _)
theorem okCell_nilIface_  : (D.v (.nilIface)).okCell = true := Eq.trans (Eq.refl _) (Eq.refl _)
theorem okCell_float_ (k : FloatKind) (n : Nat) : (D.v (.float k n)).okCell = true := Eq.trans (Eq.refl _) (Eq.refl _)
theorem okCell_map_ (r : Option Nat) : (D.v (.map r)).okCell = true := Eq.trans (Eq.refl _) (Eq.refl _)
theorem okCell_func_ (g : Fn) (x y : Array Value) : (D.v (.func g x y)).okCell = true := Eq.trans (Eq.refl _) (Eq.refl _)
theorem okCell_iface_ (t : TypeId) (x : Value) : (D.v (.iface t x)).okCell = true := Eq.trans (Eq.refl _) (Eq.refl _)
attribute [go_sem_proc] Nat.reduceMul Nat.reduceBEq Nat.reduceAdd Nat.reduceLeDiff Nat.reduceEqDiff Nat.reduceLT
attribute [go_sem_proc ↓] reduceIte
attribute [go_sem] width_len cells_agg_ cells_v_ cells_tup_ cells_fn_ okCell_fn_ cells_ifc_ okCell_ifc_ cells_loc_ okCell_loc_ cells_rd_ okCell_rd_ cells_sl_ okCell_sl_ okCell_agg_ okCell_bool_ okCell_int_ okCell_string_ okCell_pointer_ okCell_slice_ okCell_nilFunc_ okCell_nilIface_ okCell_float_ okCell_map_ okCell_func_ okCell_iface_
attribute [go_sem] hnext_eq hnextN_eq hAt_eq after_none after_some hop_alloc hop_box hop_call hop_append hop_buildSlice hop_build hop_move hop_assign hop_pick hop_load hop_fieldAddr hop_field hop_indexAddr hop_index hop_extract hop_makeFunc hop_makeInterface hop_nilCheck hop_slice hop_binOp hop_unOp hop_convert hop_b_len hop_b_cap hop_b_min hop_b_max dtail_eq dhead_nil dhead_plain dhead_guard hg_tt hg_ff hg_tf hg_ft hg_no dqcall_fn dq_call dq_append onVal2_some onVal_some dq_buildSlice dq_build dq_move dq_assign dq_pick dq_load dq_fieldAddr dq_field dq_indexAddr dq_index dq_extract dq_makeFunc dq_makeInterface dq_nilCheck dq_slice dq_binOp dq_unOp dq_b_len dq_b_cap dq_b_min dq_b_max
attribute [go_sem] bin_leql bin_lneq bin_ieql bin_ineq bin_ifc orD_some orD_none
attribute [go_sem] decide_true decide_false pureRun_pure Bool.not_true Bool.not_false Bool.true_or Bool.false_or Bool.or_true Bool.or_false Bool.true_and Bool.false_and Bool.and_true Bool.and_false dg_tt dg_ff dg_tf dg_ft dg_no dIf_t dIf_f List.length_map Int.toNat_natCast dwp_skip dwp_label dwp_exit dwp_ret dwp_seq dwp_block dwp_loop dwp_cond dwp_region dwp_draw then_normal then_exit then_ret block_normal block_ret block_eq block_ne dnext_eq gtmp_zero gtmp_succ dguardT_some dops_nil dops_plain dops_guard onValS_some dop_move dop_assign dop_pick dop_load dop_fieldAddr dop_field dop_indexAddr dop_index dop_extract dop_makeFunc dop_makeInterface dop_nilCheck dop_slice dop_binOp dop_unOp dop_convert dop_b_len dop_b_cap dop_b_min dop_b_max dop_buildSlice dop_build dop_alloc dop_box dop_store dop_call dop_append dop_copy dop_clear winOff_zero dcall_fn put_eq put_ne put_none argF_zero argF_succ argF_nil ofV_int ofV_bool ofV_string ofV_nil ofV_iface ofV_func ofV_ptr bin_add bin_sub bin_mul bin_eql bin_neq bin_lss bin_leq bin_gtr bin_geq bin_seql bin_sneq bin_slss bin_sgtr bin_sleq bin_sgeq un_not un_neg bu_max bu_min add_next set_next grow_next grow_full_ob grow_row_ob pfin_ret pfin_normal pfin_ret2 pfin_normal2 list_of_array dstore dappend dval dnew ev rdOk rdVal splice true_and and_true cond_true cond_false List.map_cons List.map_nil List.length_cons List.length_nil List.take_succ_cons List.take_zero List.drop_succ_cons List.drop_zero List.getD_cons_zero List.getD_cons_succ List.cons_append List.nil_append List.append_nil ne_eq not_false_eq_true Nat.zero_add Nat.add_zero Option.map_some
section
theorem fillD_nil (pl : Nat → Option (Nat × Nat)) (cs : List D) : fillD pl cs [] = (True, cs) := by unfold fillD; exact Eq.trans (Eq.refl _) (Eq.refl _)
def fillS (o : Option (Nat × Nat)) (pl : Nat → Option (Nat × Nat)) (cs : List D) (d : D) (r : List (Nat × D)) : Prop × List D := match o with
  | some (off, n) => (d.okCell = true ∧ d.width = n ∧ off + n ≤ cs.length ∧ (fillD pl (splice cs off d.cells) r).1, (fillD pl (splice cs off d.cells) r).2)
  | none => (False, cs)
theorem fillD_cons (pl : Nat → Option (Nat × Nat)) (cs : List D) (i : Nat) (d : D) (r : List (Nat × D)) : fillD pl cs ((i, d) :: r) = fillS (pl i) pl cs d r := by
  rw [fillD]; unfold fillS; cases pl i <;> rfl
theorem fillS_some (off n : Nat) (pl : Nat → Option (Nat × Nat)) (cs : List D) (d : D) (r : List (Nat × D)) : fillS (some (off, n)) pl cs d r = (d.okCell = true ∧ d.width = n ∧ off + n ≤ cs.length ∧ (fillD pl (splice cs off d.cells) r).1, (fillD pl (splice cs off d.cells) r).2) := Eq.trans (Eq.refl _) (Eq.refl _)
attribute [go_sem] fillD_nil fillD_cons fillS_some
def dcellR (P : Program) (S' : St) (t : TypeId) (x : D) (K : D → Prop) : Prop := match x with
  | .loc k off => match S'.ob k with
    | some (.box _ cs) => rdOk P t cs off ∧ K (rdVal P t cs off)
    | _ => False
  | _ => False
attribute [go_sem] dcellR
end
end Go.Proofs.Ytgadflonnnkjcaa

namespace Go.Proofs.Ytgadflonnnkjcaa
open Go.RowKit

def u64D (n : Nat) : D := .v (.int .u64 (n : Int))
/-! What fits the machine's bounds. -/
section
variable {P : Program} {w : World} {η : Names} {X : Nat → Nat → Prop}
theorem rep_structs {F : Nat → Prop} {α : Type} (e : α → D) (z : Nat) (hz : 0 < z) (hX : ∀ b i, F b → X b i) {A : Option Addr} {c b o : Nat} {l : List α} {C : Nat → List Value} (hA : 0 < l.length → A = some ⟨b, o, none⟩ ∧ F b)
    (hC : ∀ i a, l[i]? = some a → (C i).length = z ∧ w.rangeAt b (o + i * z) (C i)) (hR : ∀ i a, l[i]? = some a → Rep P w η X (e a) (.agg (C i).toArray)) (hagg : ∀ a, (e a).isAgg = true) (hc : l.length ≤ c) (hn : l.length ≤ 140737488351232) :
    Rep P w η X (.sl .no (l.map e)) (.slice A l.length c) := by
  simp only [Rep]
  refine ⟨A, c, by rw [List.length_map], by rw [List.length_map]; exact hc, by rw [List.length_map]; omega, trivial, fun h0 => ?_⟩
  rw [List.length_map] at h0
  refine ⟨b, o, z, (hA h0).1, hz, RepE.mk fun i d hd => ?_⟩
  rw [List.getElem?_map] at hd
  cases hi : l[i]? with
  | none => rw [hi] at hd; cases hd
  | some a =>
    rw [hi] at hd
    injection hd with hd
    subst hd
    have h1 := hR i a hi
    obtain ⟨h2, h3⟩ := hC i a hi
    cases he : e a with
    | agg ds =>
      rw [he] at h1
      simp only [Rep] at h1
      obtain ⟨vs, h4, h5, h6⟩ := h1
      have : C i = vs := by
        injection h4 with h4
        have := congrArg Array.toList h4
        simpa using this
      rw [this] at h2 h3
      have hlen : ds.length = z := by rw [← h5.length, h2]
      exact ⟨by simp only [RepA]; exact ⟨hlen, RepC.mk h5 h3 (fun j _ => hX _ _ (hA h0).2) h6⟩, fun h => by simp [D.isAgg] at h⟩
    | _ => have := hagg a; rw [he] at this; simp [D.isAgg] at this
end
/-! ### Over memory, and over trees -/
section
variable {P : Program} {base : Nat} {S : St} {η : Names} {w : World}
theorem goes_below (h : Mem P base S η w) {w' : World} (hb : Below w.heap.size w w') (hmo : mo = true → w.drawn ≤ w'.drawn) : Goes P base S η w S η w' := by
  have K : Keep (fun _ => True) w η (Fix P S η) w' η (Fix P S η) := ⟨hb.size, fun b i hlt hx => ⟨hx, hb.cell (p := ⟨b, i, none⟩) hlt⟩, fun _ _ _ hx => hx, fun b cur _ hx => ⟨cur, by rw [hb.block b ((Array.getElem?_eq_some_iff.1 hx).1)]; exact hx, rfl⟩⟩
  refine ⟨⟨Nat.le_trans h.base_ hb.size, h.dead, h.fresh, h.live, h.inj, fun k b hk => ⟨(h.in_ k b hk).1, Nat.lt_of_lt_of_le (h.in_ k b hk).2 hb.size⟩, fun k t cs b h1 h2 => ?_, fun k e n b h1 h2 => ?_, h.glob.below (hb.mono h.base_)⟩, K, hb.mono h.base_, hmo⟩
  · obtain ⟨vs, k1, k2, k3⟩ := h.box k t cs b h1 h2
    exact ⟨vs, by rw [hb.block b (h.in_ k b h2).2]; exact k1, RepL.keep K (allL_true _) k2, k3⟩
  · obtain ⟨cur, k1, k2⟩ := h.row k e n b h1 h2
    exact ⟨cur, by rw [hb.block b (h.in_ k b h2).2]; exact k1, k2⟩
def St.nil : St := ⟨0, fun _ => none⟩
theorem mem_nil (w : World) (hg : GlobOk w.heap.size w) : Mem P w.heap.size St.nil (fun _ => none) w := ⟨Nat.le_refl _, fun _ _ => rfl, fun _ _ => rfl, (fun _ _ _ h => by cases h), (fun _ _ _ h => by cases h), (fun _ _ h => by cases h), (fun _ _ _ _ h => by cases h), (fun _ _ _ _ h => by cases h), hg⟩
theorem fix_nil (b i : Nat) : Fix P St.nil (fun _ => none) b i := fun _ _ h => by cases h
theorem gives_of_dpure {g : FuncId} {args : List D} {v : Value} (h : DPure P g args (.v v)) {w : World} {vs : List Value} (hr : RepL P w (fun _ => none) (Fix P St.nil fun _ => none) args vs) (hent : ∀ vs w, (callFunc g vs).run P w = .ok (.enter g vs) w := by intro _ _; kernel_rfl) (hg : GlobOk w.heap.size w := by exact globOk_none _ _) : Calls P g vs.toArray w (Gives v w) := by
  rcases h St.nil w.heap.size _ w vs (mem_nil w hg) hr with ⟨_, k⟩ | ⟨d, S', η', u, w', k, _⟩
  · refine k.mono fun _ _ ⟨d, S', η', u, ⟨h1, _⟩, h2, h3, h4⟩ => ?_
    subst h1
    simp only [Rep] at h3
    subst h3
    exact ⟨h2, h4.below⟩
  · rw [hent] at k
    injection k with k
    cases k
end
theorem empty_toList : (⟨#[]⟩ : ByteArray).toList = [] := by rw [Go.Lib.toList_data]
attribute [go_sem] empty_toList u64D
end Go.Proofs.Ytgadflonnnkjcaa

namespace Go.Proofs.Ytgadflonnnkjcaa
open Go.ChangeShapes Go.WideShapes Go.ChangeAt Go.RowKit Go.Deep Go.Joins
section
variable {H : Type} {enc : TypeId × Value → H} {w : World}
theorem trod_struct2 {P : Program} {t : TypeId} {f0 f1 : Field} {fuel : Nat} {cs : List Value} {x : DataW H × List MemPlace} (ht : P.underlying t = some (.struct #[f0, f1])) (h : DataW.trod enc P w 0 (fun _ => true) true fuel t cs = some x) :
    ∃ y0 y1 n, x.1 = .agg [y0.1, y1.1] ∧ cs.length = P.cellsOf t ∧ DataW.trod enc P w 0 (fun _ => true) true n f0.type ((cs.drop f0.offset).take (P.cellsOf f0.type)) = some y0 ∧
      DataW.trod enc P w 0 (fun _ => true) true n f1.type ((cs.drop f1.offset).take (P.cellsOf f1.type)) = some y1 := by
  obtain ⟨xs, n, _, rfl, hl, hlen, hf⟩ := DataW.trod_struct ht h
  match xs, hlen with
  | [y0, y1], _ => exact ⟨y0, y1, n, by simp, hl, by simpa using hf 0 f0 rfl, by simpa using hf 1 f1 rfl⟩
theorem open_structs {P : Program} {α : Type} (e : α → D) {t el : TypeId} {size bytes : Nat} (ht : P.underlying t = some (.slice el)) (hc : P.cellsOf el = size) (hs0 : 0 < size) (hby : P.bytesOf el = bytes) (hb0 : 0 < bytes) (Q : α → List Value → Prop)
    (elem : ∀ (fuel : Nat) (cs : List Value) (x : DataW H × List MemPlace), DataW.trod enc P w 0 (fun _ => true) true fuel el cs = some x → Sized P el x.1 → cs.length = size → ∃ d, Q d cs)
    (hw : ∀ a, (e a).width = size) (hag : ∀ a, (e a).isAgg = true) (hrep : ∀ d cs, Q d cs → ∀ (η : Names) (X : Nat → Nat → Prop), (∀ b i, X b i) → Rep P w η X (e d) (.agg cs.toArray))
    {v : Value} {d : DataW H} {p : List MemPlace} {W : World} {base : Nat} (h : DataW.Trod enc P w 0 (fun _ => true) true t v d p) (hs : Sized P t d) (hk : Value.okWide P W .any base t v) :
    ∃ l : List α, (∀ a ∈ l, ∃ cs, Q a cs) ∧ l.length ≤ 140737488351232 ∧ ∀ (η : Names) (X : Nat → Nat → Prop), (∀ b i, X b i) → Rep P w η X (.sl .no (l.map e)) v := by
  obtain ⟨A, c, l, rfl, hlc, hr, hb⟩ := open_rows (α := α × List Value) ht hc hs0 hby hb0 (fun b o d => d.2.length = size ∧ Q d.1 d.2 ∧ w.rangeAt b o d.2) (fun fuel cs x b o _ hx hsx hlen hcell => by
    obtain ⟨d, hd⟩ := elem fuel cs x hx hsx hlen
    exact ⟨(d, cs), hlen, hd, hcell⟩) h hs hk
  have hbb : l.length ≤ 140737488351232 := by
    have : c * 1 ≤ c * bytes := Nat.mul_le_mul_left _ hb0
    omega
  refine ⟨l.map (·.1), fun a ha => ?_, by rw [List.length_map]; exact hbb, fun η X hX => ?_⟩
  · obtain ⟨d, hd, rfl⟩ := List.mem_map.1 ha
    obtain ⟨i, hi, rfl⟩ := List.getElem_of_mem hd
    obtain ⟨b, o, _, _, hf⟩ := hr (by omega)
    exact ⟨_, (hf i _ (List.getElem?_eq_getElem hi)).2.1⟩
  · rcases Nat.eq_zero_or_pos l.length with h0 | h0
    · obtain rfl : l = [] := List.eq_nil_of_length_eq_zero h0
      simp only [Rep, List.map_nil, List.length_nil]
      exact ⟨A, c, rfl, Nat.zero_le _, by omega, trivial, fun h => absurd h (by omega)⟩
    · obtain ⟨b, o, rfl, hbl, hf⟩ := hr h0
      have hget : ∀ (i : Nat) (a : α), (l.map (·.1))[i]? = some a → ∃ C, l[i]? = some (a, C) ∧ ((l[i]?.map (·.2)).getD []) = C := by
        intro i a ha
        rw [List.getElem?_map] at ha
        cases hi : l[i]? with
        | none => rw [hi] at ha; cases ha
        | some d =>
          rw [hi] at ha
          obtain ⟨d1, d2⟩ := d
          simp at ha
          exact ⟨d2, by rw [ha], rfl⟩
      have hlen : l.length = (l.map (·.1)).length := by simp
      rw [hlen] at hlc hbb ⊢
      refine rep_structs (F := (· < w.heap.size)) e size hs0 (fun b i _ => hX b i) (b := b) (o := o) (C := fun i => (l[i]?.map (·.2)).getD []) (fun _ => ⟨rfl, hbl⟩) (fun i a ha => ?_) (fun i a ha => ?_) hag hlc hbb
      · obtain ⟨C, h1, h2⟩ := hget i a ha
        simp only [h2]
        have := hf i _ h1
        exact ⟨this.1, this.2.2⟩
      · obtain ⟨C, h1, h2⟩ := hget i a ha
        simp only [h2]
        exact hrep a C (hf i _ h1).2.1 η X hX
end
end Go.Proofs.Ytgadflonnnkjcaa

namespace Go.Proofs.Ytgadflonnnkjcaa

@[go_sem] theorem okT_1 : okT Try.prog 1 = true := by kernel_rfl
@[go_sem] theorem szOf_1 : szOf Try.prog 1 = 1 := by kernel_rfl
@[go_sem] theorem aggT_1 : aggT Try.prog 1 = false := by kernel_rfl
@[go_sem] theorem undS_1 : (Try.prog.underlying 1).isSome = true := by kernel_rfl
@[go_sem] theorem infS_1 : (Try.prog.info? 1).isSome = true := by kernel_rfl
@[go_sem] theorem ifaceT_1 : ifaceT Try.prog 1 = false := by kernel_rfl
@[go_sem] theorem ptrT_1 : ptrT Try.prog 1 = false := by kernel_rfl
@[go_sem] theorem zeroT_1 : zeroT Try.prog 1 = true := by kernel_rfl
@[go_sem] theorem zeroOk_1 : zeroOk Try.prog 1 = true := by kernel_rfl
@[go_sem] theorem bytesOf_1 : bytesOf Try.prog 1 = 8 := by kernel_rfl
@[go_sem] theorem zeroD_1 : zeroD Try.prog 1 = [.v .nilFunc] := by kernel_rfl
@[go_sem] theorem okT_2 : okT Try.prog 2 = true := by kernel_rfl
@[go_sem] theorem szOf_2 : szOf Try.prog 2 = 1 := by kernel_rfl
@[go_sem] theorem aggT_2 : aggT Try.prog 2 = false := by kernel_rfl
@[go_sem] theorem undS_2 : (Try.prog.underlying 2).isSome = true := by kernel_rfl
@[go_sem] theorem infS_2 : (Try.prog.info? 2).isSome = true := by kernel_rfl
@[go_sem] theorem ifaceT_2 : ifaceT Try.prog 2 = false := by kernel_rfl
@[go_sem] theorem ptrT_2 : ptrT Try.prog 2 = false := by kernel_rfl
@[go_sem] theorem zeroT_2 : zeroT Try.prog 2 = true := by kernel_rfl
@[go_sem] theorem zeroOk_2 : zeroOk Try.prog 2 = true := by kernel_rfl
@[go_sem] theorem bytesOf_2 : bytesOf Try.prog 2 = 8 := by kernel_rfl
@[go_sem] theorem zeroD_2 : zeroD Try.prog 2 = [.v (.int .i64 0)] := by kernel_rfl
@[go_sem] theorem okT_3 : okT Try.prog 3 = true := by kernel_rfl
@[go_sem] theorem szOf_3 : szOf Try.prog 3 = 1 := by kernel_rfl
@[go_sem] theorem aggT_3 : aggT Try.prog 3 = false := by kernel_rfl
@[go_sem] theorem undS_3 : (Try.prog.underlying 3).isSome = true := by kernel_rfl
@[go_sem] theorem infS_3 : (Try.prog.info? 3).isSome = true := by kernel_rfl
@[go_sem] theorem ifaceT_3 : ifaceT Try.prog 3 = false := by kernel_rfl
@[go_sem] theorem ptrT_3 : ptrT Try.prog 3 = false := by kernel_rfl
@[go_sem] theorem zeroT_3 : zeroT Try.prog 3 = true := by kernel_rfl
@[go_sem] theorem zeroOk_3 : zeroOk Try.prog 3 = true := by kernel_rfl
@[go_sem] theorem bytesOf_3 : bytesOf Try.prog 3 = 8 := by kernel_rfl
@[go_sem] theorem zeroD_3 : zeroD Try.prog 3 = [.v (.int .i64 0)] := by kernel_rfl
@[go_sem] theorem okT_4 : okT Try.prog 4 = true := by kernel_rfl
@[go_sem] theorem szOf_4 : szOf Try.prog 4 = 1 := by kernel_rfl
@[go_sem] theorem aggT_4 : aggT Try.prog 4 = false := by kernel_rfl
@[go_sem] theorem undS_4 : (Try.prog.underlying 4).isSome = true := by kernel_rfl
@[go_sem] theorem infS_4 : (Try.prog.info? 4).isSome = true := by kernel_rfl
@[go_sem] theorem ifaceT_4 : ifaceT Try.prog 4 = false := by kernel_rfl
@[go_sem] theorem ptrT_4 : ptrT Try.prog 4 = false := by kernel_rfl
@[go_sem] theorem zeroT_4 : zeroT Try.prog 4 = true := by kernel_rfl
@[go_sem] theorem zeroOk_4 : zeroOk Try.prog 4 = true := by kernel_rfl
@[go_sem] theorem bytesOf_4 : bytesOf Try.prog 4 = 1 := by kernel_rfl
@[go_sem] theorem zeroD_4 : zeroD Try.prog 4 = [.v (.bool false)] := by kernel_rfl
@[go_sem] theorem okT_5 : okT Try.prog 5 = true := by kernel_rfl
@[go_sem] theorem szOf_5 : szOf Try.prog 5 = 1 := by kernel_rfl
@[go_sem] theorem aggT_5 : aggT Try.prog 5 = false := by kernel_rfl
@[go_sem] theorem undS_5 : (Try.prog.underlying 5).isSome = true := by kernel_rfl
@[go_sem] theorem infS_5 : (Try.prog.info? 5).isSome = true := by kernel_rfl
@[go_sem] theorem ifaceT_5 : ifaceT Try.prog 5 = false := by kernel_rfl
@[go_sem] theorem ptrT_5 : ptrT Try.prog 5 = false := by kernel_rfl
@[go_sem] theorem zeroT_5 : zeroT Try.prog 5 = true := by kernel_rfl
@[go_sem] theorem zeroOk_5 : zeroOk Try.prog 5 = true := by kernel_rfl
@[go_sem] theorem bytesOf_5 : bytesOf Try.prog 5 = 1 := by kernel_rfl
@[go_sem] theorem zeroD_5 : zeroD Try.prog 5 = [.v (.int .u8 0)] := by kernel_rfl
@[go_sem] theorem okT_6 : okT Try.prog 6 = true := by kernel_rfl
@[go_sem] theorem szOf_6 : szOf Try.prog 6 = 1 := by kernel_rfl
@[go_sem] theorem aggT_6 : aggT Try.prog 6 = false := by kernel_rfl
@[go_sem] theorem undS_6 : (Try.prog.underlying 6).isSome = true := by kernel_rfl
@[go_sem] theorem infS_6 : (Try.prog.info? 6).isSome = true := by kernel_rfl
@[go_sem] theorem ifaceT_6 : ifaceT Try.prog 6 = false := by kernel_rfl
@[go_sem] theorem ptrT_6 : ptrT Try.prog 6 = false := by kernel_rfl
@[go_sem] theorem zeroT_6 : zeroT Try.prog 6 = true := by kernel_rfl
@[go_sem] theorem zeroOk_6 : zeroOk Try.prog 6 = true := by kernel_rfl
@[go_sem] theorem bytesOf_6 : bytesOf Try.prog 6 = 1 := by kernel_rfl
@[go_sem] theorem zeroD_6 : zeroD Try.prog 6 = [.v (.int .u8 0)] := by kernel_rfl
@[go_sem] theorem okT_7 : okT Try.prog 7 = true := by kernel_rfl
@[go_sem] theorem szOf_7 : szOf Try.prog 7 = 4 := by kernel_rfl
@[go_sem] theorem aggT_7 : aggT Try.prog 7 = true := by kernel_rfl
@[go_sem] theorem undS_7 : (Try.prog.underlying 7).isSome = true := by kernel_rfl
@[go_sem] theorem infS_7 : (Try.prog.info? 7).isSome = true := by kernel_rfl
@[go_sem] theorem ifaceT_7 : ifaceT Try.prog 7 = false := by kernel_rfl
@[go_sem] theorem ptrT_7 : ptrT Try.prog 7 = false := by kernel_rfl
@[go_sem] theorem zeroT_7 : zeroT Try.prog 7 = true := by kernel_rfl
@[go_sem] theorem zeroOk_7 : zeroOk Try.prog 7 = true := by kernel_rfl
@[go_sem] theorem bytesOf_7 : bytesOf Try.prog 7 = 24 := by kernel_rfl
@[go_sem] theorem zeroD_7 : zeroD Try.prog 7 = [.v (.int .i64 0), .v (.int .i64 0), .v (.bool false), .v (.int .u8 0)] := by kernel_rfl
@[go_sem] theorem fld_7_0 : fld Try.prog 7 0 = some (0, 2) := by kernel_rfl
@[go_sem] theorem fld_7_1 : fld Try.prog 7 1 = some (1, 3) := by kernel_rfl
@[go_sem] theorem fld_7_2 : fld Try.prog 7 2 = some (2, 4) := by kernel_rfl
@[go_sem] theorem fld_7_3 : fld Try.prog 7 3 = some (3, 6) := by kernel_rfl
@[go_sem] theorem okT_9 : okT Try.prog 9 = true := by kernel_rfl
@[go_sem] theorem szOf_9 : szOf Try.prog 9 = 1 := by kernel_rfl
@[go_sem] theorem aggT_9 : aggT Try.prog 9 = false := by kernel_rfl
@[go_sem] theorem undS_9 : (Try.prog.underlying 9).isSome = true := by kernel_rfl
@[go_sem] theorem infS_9 : (Try.prog.info? 9).isSome = true := by kernel_rfl
@[go_sem] theorem ifaceT_9 : ifaceT Try.prog 9 = false := by kernel_rfl
@[go_sem] theorem ptrT_9 : ptrT Try.prog 9 = false := by kernel_rfl
@[go_sem] theorem zeroT_9 : zeroT Try.prog 9 = true := by kernel_rfl
@[go_sem] theorem zeroOk_9 : zeroOk Try.prog 9 = true := by kernel_rfl
@[go_sem] theorem bytesOf_9 : bytesOf Try.prog 9 = 16 := by kernel_rfl
@[go_sem] theorem zeroD_9 : zeroD Try.prog 9 = [.v (.string ⟨#[]⟩)] := by kernel_rfl
@[go_sem] theorem strT_9 : strT Try.prog 9 = true := by kernel_rfl
@[go_sem] theorem okT_10 : okT Try.prog 10 = true := by kernel_rfl
@[go_sem] theorem szOf_10 : szOf Try.prog 10 = 1 := by kernel_rfl
@[go_sem] theorem aggT_10 : aggT Try.prog 10 = false := by kernel_rfl
@[go_sem] theorem undS_10 : (Try.prog.underlying 10).isSome = true := by kernel_rfl
@[go_sem] theorem infS_10 : (Try.prog.info? 10).isSome = true := by kernel_rfl
@[go_sem] theorem ifaceT_10 : ifaceT Try.prog 10 = false := by kernel_rfl
@[go_sem] theorem ptrT_10 : ptrT Try.prog 10 = false := by kernel_rfl
@[go_sem] theorem zeroT_10 : zeroT Try.prog 10 = true := by kernel_rfl
@[go_sem] theorem zeroOk_10 : zeroOk Try.prog 10 = true := by kernel_rfl
@[go_sem] theorem bytesOf_10 : bytesOf Try.prog 10 = 16 := by kernel_rfl
@[go_sem] theorem zeroD_10 : zeroD Try.prog 10 = [.v (.string ⟨#[]⟩)] := by kernel_rfl
@[go_sem] theorem strT_10 : strT Try.prog 10 = true := by kernel_rfl
@[go_sem] theorem okT_11 : okT Try.prog 11 = true := by kernel_rfl
@[go_sem] theorem szOf_11 : szOf Try.prog 11 = 1 := by kernel_rfl
@[go_sem] theorem aggT_11 : aggT Try.prog 11 = false := by kernel_rfl
@[go_sem] theorem undS_11 : (Try.prog.underlying 11).isSome = true := by kernel_rfl
@[go_sem] theorem infS_11 : (Try.prog.info? 11).isSome = true := by kernel_rfl
@[go_sem] theorem ifaceT_11 : ifaceT Try.prog 11 = false := by kernel_rfl
@[go_sem] theorem ptrT_11 : ptrT Try.prog 11 = false := by kernel_rfl
@[go_sem] theorem zeroT_11 : zeroT Try.prog 11 = true := by kernel_rfl
@[go_sem] theorem zeroOk_11 : zeroOk Try.prog 11 = true := by kernel_rfl
@[go_sem] theorem bytesOf_11 : bytesOf Try.prog 11 = 16 := by kernel_rfl
@[go_sem] theorem zeroD_11 : zeroD Try.prog 11 = [.v (.string ⟨#[]⟩)] := by kernel_rfl
@[go_sem] theorem strT_11 : strT Try.prog 11 = true := by kernel_rfl
@[go_sem] theorem okT_22 : okT Try.prog 22 = true := by kernel_rfl
@[go_sem] theorem szOf_22 : szOf Try.prog 22 = 1 := by kernel_rfl
@[go_sem] theorem aggT_22 : aggT Try.prog 22 = false := by kernel_rfl
@[go_sem] theorem undS_22 : (Try.prog.underlying 22).isSome = true := by kernel_rfl
@[go_sem] theorem infS_22 : (Try.prog.info? 22).isSome = true := by kernel_rfl
@[go_sem] theorem ifaceT_22 : ifaceT Try.prog 22 = false := by kernel_rfl
@[go_sem] theorem ptrT_22 : ptrT Try.prog 22 = false := by kernel_rfl
@[go_sem] theorem zeroT_22 : zeroT Try.prog 22 = true := by kernel_rfl
@[go_sem] theorem zeroOk_22 : zeroOk Try.prog 22 = true := by kernel_rfl
@[go_sem] theorem bytesOf_22 : bytesOf Try.prog 22 = 24 := by kernel_rfl
@[go_sem] theorem zeroD_22 : zeroD Try.prog 22 = [.sl .full []] := by kernel_rfl
@[go_sem] theorem elT_22 : elT Try.prog 22 = some 26 := by kernel_rfl
@[go_sem] theorem bul_22 (own : Own) (es : List D) (ty : TypeId) (cs : Array Bool) : dbuiltin Try.prog .len #[22] ty cs [.sl own es] = some (True, .v (.int .i64 es.length)) := bu_len own es _ ty cs elT_22
@[go_sem] theorem bwl_22 (k off n c : Nat) (ty : TypeId) (cs : Array Bool) : dbuiltin Try.prog .len #[22] ty cs [.win k off n c] = some (True, .v (.int .i64 n)) := bu_wlen k off n c _ ty cs elT_22
@[go_sem] theorem bwc_22 (k off n c : Nat) (ty : TypeId) (cs : Array Bool) : dbuiltin Try.prog .cap #[22] ty cs [.win k off n c] = some (True, .v (.int .i64 c)) := bu_wcap k off n c _ ty cs elT_22
@[go_sem] theorem okT_24 : okT Try.prog 24 = true := by kernel_rfl
@[go_sem] theorem szOf_24 : szOf Try.prog 24 = 32 := by kernel_rfl
@[go_sem] theorem aggT_24 : aggT Try.prog 24 = true := by kernel_rfl
@[go_sem] theorem undS_24 : (Try.prog.underlying 24).isSome = true := by kernel_rfl
@[go_sem] theorem infS_24 : (Try.prog.info? 24).isSome = true := by kernel_rfl
@[go_sem] theorem ifaceT_24 : ifaceT Try.prog 24 = false := by kernel_rfl
@[go_sem] theorem ptrT_24 : ptrT Try.prog 24 = false := by kernel_rfl
@[go_sem] theorem zeroT_24 : zeroT Try.prog 24 = true := by kernel_rfl
@[go_sem] theorem zeroOk_24 : zeroOk Try.prog 24 = true := by kernel_rfl
@[go_sem] theorem bytesOf_24 : bytesOf Try.prog 24 = 32 := by kernel_rfl
@[go_sem] theorem zeroD_24 : zeroD Try.prog 24 = [.v (.int .u8 0), .v (.int .u8 0), .v (.int .u8 0), .v (.int .u8 0), .v (.int .u8 0), .v (.int .u8 0), .v (.int .u8 0), .v (.int .u8 0), .v (.int .u8 0), .v (.int .u8 0), .v (.int .u8 0), .v (.int .u8 0), .v (.int .u8 0), .v (.int .u8 0), .v (.int .u8 0), .v (.int .u8 0), .v (.int .u8 0), .v (.int .u8 0), .v (.int .u8 0), .v (.int .u8 0), .v (.int .u8 0), .v (.int .u8 0), .v (.int .u8 0), .v (.int .u8 0), .v (.int .u8 0), .v (.int .u8 0), .v (.int .u8 0), .v (.int .u8 0), .v (.int .u8 0), .v (.int .u8 0), .v (.int .u8 0), .v (.int .u8 0)] := by kernel_rfl
@[go_sem] theorem arT_24 : arT Try.prog 24 = some (32, 5) := by kernel_rfl
@[go_sem] theorem okT_26 : okT Try.prog 26 = true := by kernel_rfl
@[go_sem] theorem szOf_26 : szOf Try.prog 26 = 33 := by kernel_rfl
@[go_sem] theorem aggT_26 : aggT Try.prog 26 = true := by kernel_rfl
@[go_sem] theorem undS_26 : (Try.prog.underlying 26).isSome = true := by kernel_rfl
@[go_sem] theorem infS_26 : (Try.prog.info? 26).isSome = true := by kernel_rfl
@[go_sem] theorem ifaceT_26 : ifaceT Try.prog 26 = false := by kernel_rfl
@[go_sem] theorem ptrT_26 : ptrT Try.prog 26 = false := by kernel_rfl
@[go_sem] theorem zeroT_26 : zeroT Try.prog 26 = true := by kernel_rfl
@[go_sem] theorem zeroOk_26 : zeroOk Try.prog 26 = true := by kernel_rfl
@[go_sem] theorem bytesOf_26 : bytesOf Try.prog 26 = 40 := by kernel_rfl
@[go_sem] theorem zeroD_26 : zeroD Try.prog 26 = [.v (.int .i64 0), .v (.int .u8 0), .v (.int .u8 0), .v (.int .u8 0), .v (.int .u8 0), .v (.int .u8 0), .v (.int .u8 0), .v (.int .u8 0), .v (.int .u8 0), .v (.int .u8 0), .v (.int .u8 0), .v (.int .u8 0), .v (.int .u8 0), .v (.int .u8 0), .v (.int .u8 0), .v (.int .u8 0), .v (.int .u8 0), .v (.int .u8 0), .v (.int .u8 0), .v (.int .u8 0), .v (.int .u8 0), .v (.int .u8 0), .v (.int .u8 0), .v (.int .u8 0), .v (.int .u8 0), .v (.int .u8 0), .v (.int .u8 0), .v (.int .u8 0), .v (.int .u8 0), .v (.int .u8 0), .v (.int .u8 0), .v (.int .u8 0), .v (.int .u8 0)] := by kernel_rfl
@[go_sem] theorem fld_26_0 : fld Try.prog 26 0 = some (0, 3) := by kernel_rfl
@[go_sem] theorem fld_26_1 : fld Try.prog 26 1 = some (1, 24) := by kernel_rfl
noncomputable def pl26 : Nat → Option (Nat × Nat) := (placeT Try.prog 26).getD fun _ => none
@[go_sem] theorem placeT_26 : placeT Try.prog 26 = some pl26 := by kernel_rfl
@[go_sem] theorem pl_26_0 : pl26 0 = some (0, 1) := by kernel_rfl
@[go_sem] theorem pl_26_1 : pl26 1 = some (1, 32) := by kernel_rfl
@[go_sem] theorem okT_32 : okT Try.prog 32 = true := by kernel_rfl
@[go_sem] theorem szOf_32 : szOf Try.prog 32 = 1 := by kernel_rfl
@[go_sem] theorem aggT_32 : aggT Try.prog 32 = false := by kernel_rfl
@[go_sem] theorem undS_32 : (Try.prog.underlying 32).isSome = true := by kernel_rfl
@[go_sem] theorem infS_32 : (Try.prog.info? 32).isSome = true := by kernel_rfl
@[go_sem] theorem ifaceT_32 : ifaceT Try.prog 32 = false := by kernel_rfl
@[go_sem] theorem ptrT_32 : ptrT Try.prog 32 = false := by kernel_rfl
@[go_sem] theorem zeroT_32 : zeroT Try.prog 32 = true := by kernel_rfl
@[go_sem] theorem zeroOk_32 : zeroOk Try.prog 32 = true := by kernel_rfl
@[go_sem] theorem bytesOf_32 : bytesOf Try.prog 32 = 24 := by kernel_rfl
@[go_sem] theorem zeroD_32 : zeroD Try.prog 32 = [.sl .full []] := by kernel_rfl
@[go_sem] theorem elT_32 : elT Try.prog 32 = some 24 := by kernel_rfl
@[go_sem] theorem bul_32 (own : Own) (es : List D) (ty : TypeId) (cs : Array Bool) : dbuiltin Try.prog .len #[32] ty cs [.sl own es] = some (True, .v (.int .i64 es.length)) := bu_len own es _ ty cs elT_32
@[go_sem] theorem bwl_32 (k off n c : Nat) (ty : TypeId) (cs : Array Bool) : dbuiltin Try.prog .len #[32] ty cs [.win k off n c] = some (True, .v (.int .i64 n)) := bu_wlen k off n c _ ty cs elT_32
@[go_sem] theorem bwc_32 (k off n c : Nat) (ty : TypeId) (cs : Array Bool) : dbuiltin Try.prog .cap #[32] ty cs [.win k off n c] = some (True, .v (.int .i64 c)) := bu_wcap k off n c _ ty cs elT_32
@[go_sem] theorem okT_43 : okT Try.prog 43 = true := by kernel_rfl
@[go_sem] theorem szOf_43 : szOf Try.prog 43 = 1 := by kernel_rfl
@[go_sem] theorem aggT_43 : aggT Try.prog 43 = false := by kernel_rfl
@[go_sem] theorem undS_43 : (Try.prog.underlying 43).isSome = true := by kernel_rfl
@[go_sem] theorem infS_43 : (Try.prog.info? 43).isSome = true := by kernel_rfl
@[go_sem] theorem ifaceT_43 : ifaceT Try.prog 43 = false := by kernel_rfl
@[go_sem] theorem ptrT_43 : ptrT Try.prog 43 = false := by kernel_rfl
@[go_sem] theorem zeroT_43 : zeroT Try.prog 43 = true := by kernel_rfl
@[go_sem] theorem zeroOk_43 : zeroOk Try.prog 43 = true := by kernel_rfl
@[go_sem] theorem bytesOf_43 : bytesOf Try.prog 43 = 24 := by kernel_rfl
@[go_sem] theorem zeroD_43 : zeroD Try.prog 43 = [.sl .full []] := by kernel_rfl
@[go_sem] theorem elT_43 : elT Try.prog 43 = some 5 := by kernel_rfl
@[go_sem] theorem bul_43 (own : Own) (es : List D) (ty : TypeId) (cs : Array Bool) : dbuiltin Try.prog .len #[43] ty cs [.sl own es] = some (True, .v (.int .i64 es.length)) := bu_len own es _ ty cs elT_43
@[go_sem] theorem bwl_43 (k off n c : Nat) (ty : TypeId) (cs : Array Bool) : dbuiltin Try.prog .len #[43] ty cs [.win k off n c] = some (True, .v (.int .i64 n)) := bu_wlen k off n c _ ty cs elT_43
@[go_sem] theorem bwc_43 (k off n c : Nat) (ty : TypeId) (cs : Array Bool) : dbuiltin Try.prog .cap #[43] ty cs [.win k off n c] = some (True, .v (.int .i64 c)) := bu_wcap k off n c _ ty cs elT_43
@[go_sem] theorem okT_46 : okT Try.prog 46 = true := by kernel_rfl
@[go_sem] theorem szOf_46 : szOf Try.prog 46 = 1 := by kernel_rfl
@[go_sem] theorem aggT_46 : aggT Try.prog 46 = false := by kernel_rfl
@[go_sem] theorem undS_46 : (Try.prog.underlying 46).isSome = true := by kernel_rfl
@[go_sem] theorem infS_46 : (Try.prog.info? 46).isSome = true := by kernel_rfl
@[go_sem] theorem ifaceT_46 : ifaceT Try.prog 46 = false := by kernel_rfl
@[go_sem] theorem ptrT_46 : ptrT Try.prog 46 = false := by kernel_rfl
@[go_sem] theorem zeroT_46 : zeroT Try.prog 46 = true := by kernel_rfl
@[go_sem] theorem zeroOk_46 : zeroOk Try.prog 46 = true := by kernel_rfl
@[go_sem] theorem bytesOf_46 : bytesOf Try.prog 46 = 8 := by kernel_rfl
@[go_sem] theorem zeroD_46 : zeroD Try.prog 46 = [.v .nilFunc] := by kernel_rfl
@[go_sem] theorem okT_50 : okT Try.prog 50 = true := by kernel_rfl
@[go_sem] theorem szOf_50 : szOf Try.prog 50 = 1 := by kernel_rfl
@[go_sem] theorem aggT_50 : aggT Try.prog 50 = false := by kernel_rfl
@[go_sem] theorem undS_50 : (Try.prog.underlying 50).isSome = true := by kernel_rfl
@[go_sem] theorem infS_50 : (Try.prog.info? 50).isSome = true := by kernel_rfl
@[go_sem] theorem ifaceT_50 : ifaceT Try.prog 50 = false := by kernel_rfl
@[go_sem] theorem ptrT_50 : ptrT Try.prog 50 = false := by kernel_rfl
@[go_sem] theorem zeroT_50 : zeroT Try.prog 50 = true := by kernel_rfl
@[go_sem] theorem zeroOk_50 : zeroOk Try.prog 50 = true := by kernel_rfl
@[go_sem] theorem bytesOf_50 : bytesOf Try.prog 50 = 8 := by kernel_rfl
@[go_sem] theorem zeroD_50 : zeroD Try.prog 50 = [.v .nilFunc] := by kernel_rfl
@[go_sem] theorem okT_53 : okT Try.prog 53 = true := by kernel_rfl
@[go_sem] theorem szOf_53 : szOf Try.prog 53 = 1 := by kernel_rfl
@[go_sem] theorem aggT_53 : aggT Try.prog 53 = false := by kernel_rfl
@[go_sem] theorem undS_53 : (Try.prog.underlying 53).isSome = true := by kernel_rfl
@[go_sem] theorem infS_53 : (Try.prog.info? 53).isSome = true := by kernel_rfl
@[go_sem] theorem ifaceT_53 : ifaceT Try.prog 53 = false := by kernel_rfl
@[go_sem] theorem ptrT_53 : ptrT Try.prog 53 = false := by kernel_rfl
@[go_sem] theorem zeroT_53 : zeroT Try.prog 53 = true := by kernel_rfl
@[go_sem] theorem zeroOk_53 : zeroOk Try.prog 53 = true := by kernel_rfl
@[go_sem] theorem bytesOf_53 : bytesOf Try.prog 53 = 8 := by kernel_rfl
@[go_sem] theorem zeroD_53 : zeroD Try.prog 53 = [.v (.int .u64 0)] := by kernel_rfl
@[go_sem] theorem okT_59 : okT Try.prog 59 = true := by kernel_rfl
@[go_sem] theorem szOf_59 : szOf Try.prog 59 = 1 := by kernel_rfl
@[go_sem] theorem aggT_59 : aggT Try.prog 59 = false := by kernel_rfl
@[go_sem] theorem undS_59 : (Try.prog.underlying 59).isSome = true := by kernel_rfl
@[go_sem] theorem infS_59 : (Try.prog.info? 59).isSome = true := by kernel_rfl
@[go_sem] theorem ifaceT_59 : ifaceT Try.prog 59 = false := by kernel_rfl
@[go_sem] theorem ptrT_59 : ptrT Try.prog 59 = false := by kernel_rfl
@[go_sem] theorem zeroT_59 : zeroT Try.prog 59 = true := by kernel_rfl
@[go_sem] theorem zeroOk_59 : zeroOk Try.prog 59 = true := by kernel_rfl
@[go_sem] theorem bytesOf_59 : bytesOf Try.prog 59 = 8 := by kernel_rfl
@[go_sem] theorem zeroD_59 : zeroD Try.prog 59 = [.v (.int .i64 0)] := by kernel_rfl
@[go_sem] theorem okT_66 : okT Try.prog 66 = true := by kernel_rfl
@[go_sem] theorem szOf_66 : szOf Try.prog 66 = 1 := by kernel_rfl
@[go_sem] theorem aggT_66 : aggT Try.prog 66 = false := by kernel_rfl
@[go_sem] theorem undS_66 : (Try.prog.underlying 66).isSome = true := by kernel_rfl
@[go_sem] theorem infS_66 : (Try.prog.info? 66).isSome = true := by kernel_rfl
@[go_sem] theorem ifaceT_66 : ifaceT Try.prog 66 = false := by kernel_rfl
@[go_sem] theorem ptrT_66 : ptrT Try.prog 66 = false := by kernel_rfl
@[go_sem] theorem zeroT_66 : zeroT Try.prog 66 = true := by kernel_rfl
@[go_sem] theorem zeroOk_66 : zeroOk Try.prog 66 = true := by kernel_rfl
@[go_sem] theorem bytesOf_66 : bytesOf Try.prog 66 = 4 := by kernel_rfl
@[go_sem] theorem zeroD_66 : zeroD Try.prog 66 = [.v (.int .u32 0)] := by kernel_rfl
@[go_sem] theorem okT_68 : okT Try.prog 68 = true := by kernel_rfl
@[go_sem] theorem szOf_68 : szOf Try.prog 68 = 1 := by kernel_rfl
@[go_sem] theorem aggT_68 : aggT Try.prog 68 = false := by kernel_rfl
@[go_sem] theorem undS_68 : (Try.prog.underlying 68).isSome = true := by kernel_rfl
@[go_sem] theorem infS_68 : (Try.prog.info? 68).isSome = true := by kernel_rfl
@[go_sem] theorem ifaceT_68 : ifaceT Try.prog 68 = false := by kernel_rfl
@[go_sem] theorem ptrT_68 : ptrT Try.prog 68 = false := by kernel_rfl
@[go_sem] theorem zeroT_68 : zeroT Try.prog 68 = true := by kernel_rfl
@[go_sem] theorem zeroOk_68 : zeroOk Try.prog 68 = true := by kernel_rfl
@[go_sem] theorem bytesOf_68 : bytesOf Try.prog 68 = 8 := by kernel_rfl
@[go_sem] theorem zeroD_68 : zeroD Try.prog 68 = [.v (.int .u64 0)] := by kernel_rfl
@[go_sem] theorem okT_69 : okT Try.prog 69 = true := by kernel_rfl
@[go_sem] theorem szOf_69 : szOf Try.prog 69 = 1 := by kernel_rfl
@[go_sem] theorem aggT_69 : aggT Try.prog 69 = false := by kernel_rfl
@[go_sem] theorem undS_69 : (Try.prog.underlying 69).isSome = true := by kernel_rfl
@[go_sem] theorem infS_69 : (Try.prog.info? 69).isSome = true := by kernel_rfl
@[go_sem] theorem ifaceT_69 : ifaceT Try.prog 69 = false := by kernel_rfl
@[go_sem] theorem ptrT_69 : ptrT Try.prog 69 = false := by kernel_rfl
@[go_sem] theorem zeroT_69 : zeroT Try.prog 69 = true := by kernel_rfl
@[go_sem] theorem zeroOk_69 : zeroOk Try.prog 69 = true := by kernel_rfl
@[go_sem] theorem bytesOf_69 : bytesOf Try.prog 69 = 24 := by kernel_rfl
@[go_sem] theorem zeroD_69 : zeroD Try.prog 69 = [.sl .full []] := by kernel_rfl
@[go_sem] theorem elT_69 : elT Try.prog 69 = some 3 := by kernel_rfl
@[go_sem] theorem bul_69 (own : Own) (es : List D) (ty : TypeId) (cs : Array Bool) : dbuiltin Try.prog .len #[69] ty cs [.sl own es] = some (True, .v (.int .i64 es.length)) := bu_len own es _ ty cs elT_69
@[go_sem] theorem bwl_69 (k off n c : Nat) (ty : TypeId) (cs : Array Bool) : dbuiltin Try.prog .len #[69] ty cs [.win k off n c] = some (True, .v (.int .i64 n)) := bu_wlen k off n c _ ty cs elT_69
@[go_sem] theorem bwc_69 (k off n c : Nat) (ty : TypeId) (cs : Array Bool) : dbuiltin Try.prog .cap #[69] ty cs [.win k off n c] = some (True, .v (.int .i64 c)) := bu_wcap k off n c _ ty cs elT_69
@[go_sem] theorem okT_71 : okT Try.prog 71 = true := by kernel_rfl
@[go_sem] theorem szOf_71 : szOf Try.prog 71 = 1 := by kernel_rfl
@[go_sem] theorem aggT_71 : aggT Try.prog 71 = false := by kernel_rfl
@[go_sem] theorem undS_71 : (Try.prog.underlying 71).isSome = true := by kernel_rfl
@[go_sem] theorem infS_71 : (Try.prog.info? 71).isSome = true := by kernel_rfl
@[go_sem] theorem ifaceT_71 : ifaceT Try.prog 71 = false := by kernel_rfl
@[go_sem] theorem ptrT_71 : ptrT Try.prog 71 = false := by kernel_rfl
@[go_sem] theorem zeroT_71 : zeroT Try.prog 71 = true := by kernel_rfl
@[go_sem] theorem zeroOk_71 : zeroOk Try.prog 71 = true := by kernel_rfl
@[go_sem] theorem bytesOf_71 : bytesOf Try.prog 71 = 8 := by kernel_rfl
@[go_sem] theorem zeroD_71 : zeroD Try.prog 71 = [.v (.int .u64 0)] := by kernel_rfl
@[go_sem] theorem okT_75 : okT Try.prog 75 = true := by kernel_rfl
@[go_sem] theorem szOf_75 : szOf Try.prog 75 = 1 := by kernel_rfl
@[go_sem] theorem aggT_75 : aggT Try.prog 75 = false := by kernel_rfl
@[go_sem] theorem undS_75 : (Try.prog.underlying 75).isSome = true := by kernel_rfl
@[go_sem] theorem infS_75 : (Try.prog.info? 75).isSome = true := by kernel_rfl
@[go_sem] theorem ifaceT_75 : ifaceT Try.prog 75 = false := by kernel_rfl
@[go_sem] theorem ptrT_75 : ptrT Try.prog 75 = true := by kernel_rfl
@[go_sem] theorem zeroT_75 : zeroT Try.prog 75 = true := by kernel_rfl
@[go_sem] theorem zeroOk_75 : zeroOk Try.prog 75 = true := by kernel_rfl
@[go_sem] theorem bytesOf_75 : bytesOf Try.prog 75 = 8 := by kernel_rfl
@[go_sem] theorem zeroD_75 : zeroD Try.prog 75 = [.v (.pointer none)] := by kernel_rfl
theorem mixed : Try.prog.follows .mixedOrders = true := by kernel_rfl
end Go.Proofs.Ytgadflonnnkjcaa

namespace Go.Proofs.Ytgadflonnnkjcaa
open Go.RowKit

theorem ob_hit {S : St} {o : Ob} {k : Nat} (h : k = S.next) : (S.add o).ob k = some o := by rw [add_ob, if_pos h]
theorem ob_skip {S : St} {o : Ob} {k : Nat} (h : k ≠ S.next) : (S.add o).ob k = S.ob k := by rw [add_ob, if_neg h]
theorem ob_set {S : St} {o : Ob} {k j : Nat} (h : j = k) : (S.set k o).ob j = some o := by rw [set_ob, if_pos h]
theorem ob_old {S : St} {o : Ob} {k j : Nat} (h : j ≠ k) : (S.set k o).ob j = S.ob j := by rw [set_ob, if_neg h]
theorem drop_next (S : St) (g : Nat) : (S.drop g).next = S.next := Eq.trans (Eq.refl _) (Eq.refl _)
theorem ob_drop {S : St} {g k : Nat} (h : k ≠ g) : (S.drop g).ob k = S.ob k := by simp only [St.drop, if_neg h]
theorem int_zero : ((0 : Nat) : Int) = 0 := Eq.trans (Eq.refl _) (Eq.refl _)
attribute [go_sem] ob_hit ob_skip ob_set ob_old ob_drop drop_next getD_map Int.natCast_nonneg int_zero beq_self_eq_true Int.toNat_zero List.range_zero List.mem_cons List.not_mem_nil or_false forall_eq forall_eq_or_imp false_implies implies_true Option.isSome_some bnd or_true Int.toNat_one Int.le_refl ge_iff_le gt_iff_lt Nat.sub_zero
theorem cells_win_ (k off n c : Nat) : (D.win k off n c).cells = [D.win k off n c] := Eq.trans (Eq.refl _) (Eq.refl _)
theorem okCell_win_ (k off n c : Nat) : (D.win k off n c).okCell = true := Eq.trans (Eq.refl _) (Eq.refl _)
attribute [go_sem] cells_win_ okCell_win_
/-! What is written. -/
def dstOk (W : Nat → Bool) : Option Tmp → Bool
  | none => true
  | some t => W t
def wrOk (W : Nat → Bool) : Code → Bool
  | .region _ ops _ => ops.all fun o => dstOk W o.dst
  | .seq x y => wrOk W x && wrOk W y
  | .cond _ x y => wrOk W x && wrOk W y
  | .block _ c => wrOk W c
  | .loop c => wrOk W c
  | _ => true
def Off (W : Nat → Bool) (f f' : Fm) : Prop := ∀ t, W t = false → f' t = f t
theorem Off.refl (W : Nat → Bool) (f : Fm) : Off W f f := fun _ _ => rfl
theorem Off.trans {W : Nat → Bool} {f g h : Fm} (a : Off W f g) (b : Off W g h) : Off W f h := fun t ht => (b t ht).trans (a t ht)
theorem Off.put {W : Nat → Bool} {f g : Fm} (a : Off W f g) {dst : Option Tmp} (hd : dstOk W dst = true) (d : D) : Off W f (put g dst d) := fun t ht => by
  rw [put_same (fun e => by subst e; simp only [dstOk] at hd; rw [hd] at ht; cases ht)]
  exact a t ht
theorem St.WF.add {S : St} (h : S.WF) (o : Ob) : (S.add o).WF := fun k hk => by
  have hk' : S.next + 1 ≤ k := hk
  simp only [St.add]
  rw [if_neg (by omega)]
  exact h k (by omega)
theorem St.WF.set {S : St} (h : S.WF) {k : Nat} (hk : k < S.next) (o : Ob) : (S.set k o).WF := fun j hj => by
  have hj' : S.next ≤ j := hj
  simp only [St.set]
  rw [if_neg (by omega)]
  exact h j hj'
theorem St.WF.drop {S : St} (h : S.WF) (g : Nat) : (S.drop g).WF := fun j hj => by
  have hj' : S.next ≤ j := hj
  simp only [St.drop]
  split
  · rfl
  · exact h j hj'
theorem St.WF.leave {S : St} (h : S.WF) (o : Own) : (S.leave o).WF := by
  cases o with
  | row g => exact h.drop g
  | no => exact h
  | full => exact h
theorem St.WF.grow {S : St} (h : S.WF) (o : Own) (e : TypeId) (n : Nat) : (S.grow o e n).WF := (h.leave o).add _
theorem St.WF.keep {S : St} (h : S.WF) {n : Nat} (hn : S.next ≤ n) : (St.mk n S.ob).WF := fun k hk => h k (Nat.le_trans hn hk)
theorem St.Sub.keep {S T : St} (h : S.Sub T) {n : Nat} (hn : T.next ≤ n) : S.Sub ⟨n, T.ob⟩ := ⟨Nat.le_trans h.next hn, h.ob⟩
theorem St.Sub.trans {A B C : St} (h : A.Sub B) (k : B.Sub C) : A.Sub C := ⟨Nat.le_trans h.next k.next, fun i o hi => k.ob i o (h.ob i o hi)⟩
theorem DCalls.wf {P : Program} {g : FuncId} {args : List D} {S : St} {K : D → St → Prop} (h : DCalls P g args S K) : DCalls P g args S fun d S' => K d S' ∧ S'.WF := fun base η w vs hM hr => by
  rcases h base η w vs hM hr with ⟨h1, h2⟩ | ⟨d, S', η', v, w', h1, h2, h3, h4⟩
  · exact .inl ⟨h1, h2.mono fun _ _ ⟨d, S', η', v, h1, h2, h3, h4⟩ => ⟨d, S', η', v, ⟨h1, h4.mem.fresh⟩, h2, h3, h4⟩⟩
  · exact .inr ⟨d, S', η', v, w', h1, ⟨h2, h4.mem.fresh⟩, h3, h4⟩
theorem DRun.wf {P : Program} {run : List Value → Sem Value} {args : List D} {S : St} {K : D → St → Prop} (h : DRun P run args S K) : DRun P run args S fun d S' => K d S' ∧ S'.WF := fun base η w vs hM hr => by
  obtain ⟨d, S', η', v, w', h1, h2, h3, h4⟩ := h base η w vs hM hr
  exact ⟨d, S', η', v, w', h1, ⟨h2, h4.mem.fresh⟩, h3, h4⟩
theorem onVal_and {o : Option (Prop × D)} {K : D → Prop} {p : Prop} (hp : p) (h : onVal o K) : onVal o fun d => K d ∧ p := onVal_mono (fun _ hd => ⟨hd, hp⟩) h
section
variable {P : Program} {W : Nat → Bool}
theorem dop_more {f : Fm} {S : St} {ty : TypeId} {op : Op} {K : D → St → Prop} (hS : S.WF) (ho : dop P f S ty op K) : dop P f S ty op fun d S' => K d S' ∧ S'.WF := by
  cases op with
  | alloc t => simp only [dop] at *; exact ⟨ho.1, ho.2, hS.add _⟩
  | box t x => simp only [dop] at *; exact ⟨ho.1, ho.2, hS.add _⟩
  | store t x y =>
    simp only [dop] at *
    split at ho
    · split at ho
      · rename_i k off _ _ t' cs hk
        exact ⟨ho.1, ho.2.1, ho.2.2.1, ho.2.2.2.1, ho.2.2.2.2, hS.set (hS.lt hk) _⟩
      · exact ho
    · exact ho
  | call cl =>
    obtain ⟨callee, args, ts⟩ := cl
    cases callee with
    | value x =>
      simp only [dop] at *
      split at ho
      · exact ho.wf
      · exact ho
    | invoke r m =>
      simp only [dop] at *
      split at ho
      · obtain ⟨g, d', h1, h2⟩ := ho
        exact ⟨g, d', h1, h2.wf⟩
      · exact ho
    | builtin b =>
      by_cases hb : b = .append
      · subst hb
        simp only [dop] at *
        split at ho
        · split at ho
          · rcases ho with ⟨k1, k2, k3, k4, k5, k6, k7, k8⟩ | ⟨k1, k2, k3, k4, k5, k6, k7, k8, k9, k10⟩ | ho
            · exact .inl ⟨k1, k2, k3, k4, k5, k6, k7, k8, hS.grow _ _ _⟩
            · exact .inr (.inl ⟨k1, k2, k3, k4, k5, k6, k7, k8, k9, fun c zs e1 e2 => ⟨k10 c zs e1 e2, hS.add _⟩⟩)
            · exact .inr (.inr ho.wf)
          · exact ho
        · exact ho.wf
        · exact ho
      · cases b <;> first | exact absurd rfl hb | (simp only [dop] at *; exact onVal_and hS ho) | exact DRun.wf ho
  | makeSlice t x y => exact DRun.wf ho
  | typeAssert x xt t ok => exact DRun.wf ho
  | lookup t x i ok => exact DRun.wf ho
  | makeMap t r => exact DRun.wf ho
  | mapUpdate t m k x => exact (DRun.wf ho).mono fun d S' hd => ⟨hd.1.1, hd.1.2, hd.2⟩
  | insert t m k x => exact (DRun.wf ho).mono fun d S' hd => ⟨hd.1.1, hd.1.2, hd.2⟩
  | _ => simp only [dop] at *; exact onVal_and hS ho
theorem dops_more {ops : Array Oper} {Q : Fm → St → Prop} : ∀ (l : List Oper), (∀ o ∈ l, dstOk W o.dst = true) → ∀ {f : Fm} {S : St}, S.WF → dops P ops Q l f S → dops P ops (fun f' S' => Q f' S' ∧ S'.WF ∧ Off W f f') l f S
  | [], _, f, S, hS, h => ⟨h, hS, Off.refl W f⟩
  | o :: l, hw, f, S, hS, h => by
    unfold dops at *
    have h1 := hw o (by simp)
    have h2 : ∀ o' ∈ l, dstOk W o'.dst = true := fun o' ho => hw o' (by simp [ho])
    refine dwanted_mono (fun hy => ?_) (fun hn => ?_) h
    · refine dop_mono (fun d S' hk => ?_) (dop_more hS hy)
      refine dops_mono (fun f' S'' hq => ?_) l (dops_more l h2 hk.2 hk.1)
      exact ⟨hq.1, hq.2.1, (Off.put (Off.refl W f) h1 d).trans hq.2.2⟩
    · refine dops_mono (fun f' S'' hq => ?_) l (dops_more l h2 hS hn)
      exact ⟨hq.1, hq.2.1, (Off.put (Off.refl W f) h1 _).trans hq.2.2⟩
theorem dhead_more {ops : Array Oper} {S : St} (hS : S.WF) {Q : Fm → St → Prop} : ∀ (l : List Oper), (∀ o ∈ l, dstOk W o.dst = true) → ∀ {f : Fm} {u : Option Ob}, dhead P ops S Q l f u → dhead P ops S (fun f' S' => Q f' S' ∧ S'.WF ∧ Off W f f') l f u
  | [], _, f, u, h => ⟨h, (by cases u with | none => exact hS | some b => exact hS.add b), Off.refl W f⟩
  | o :: l, hw, f, u, h => by
    unfold dhead at *
    have h1 := hw o (by simp)
    have h2 : ∀ o' ∈ l, dstOk W o'.dst = true := fun o' ho => hw o' (by simp [ho])
    have go : ∀ (d : D) (u' : Option Ob), dhead P ops S Q l (put f o.dst d) u' → dhead P ops S (fun f' S' => Q f' S' ∧ S'.WF ∧ Off W f f') l (put f o.dst d) u' := fun d u' hd =>
      dhead_mono (fun f' S' hq => ⟨hq.1, hq.2.1, (Off.put (Off.refl W f) h1 d).trans hq.2.2⟩) l (dhead_more hS l h2 hd)
    split at h
    · exact hop_mono (fun d u' hd => go d u' hd) h
    · exact dwanted_mono (fun hq => dquiet_mono (fun d hd => go d u hd) hq) (go _ u) h
theorem sAny_more {ops : Array Oper} {md : Region.Mode} {Zs : St → Prop} {Q : Fm → St → Prop} (hw : ∀ (j : Nat) (o : Oper), ops[j]? = some o → dstOk W o.dst = true) : ∀ (fuel : Nat) (L : Array Bool) {f : Fm} {S : St}, S.WF → sAny P md ops Zs Q fuel L f S → sAny P md ops Zs (fun f' S' => Q f' S' ∧ S'.WF ∧ Off W f f') fuel L f S
  | 0, _, f, _, hS, k => ⟨k.1, k.2, hS, Off.refl W f⟩
  | n + 1, L, f, S, hS, k => by
    refine ⟨fun e => ⟨k.1 e, hS, Off.refl W f⟩, fun i hi => ?_⟩
    have h2 := k.2 i hi
    unfold sOp at *
    cases ho : ops[i]? with
    | none => rw [ho] at h2; exact sAny_more hw n _ hS h2
    | some o =>
      rw [ho] at h2
      have h1 := hw i o ho
      have go : ∀ d (S' : St), S'.WF → sAny P md ops Zs Q n (L.setIfInBounds i true) (put f o.dst d) S' → sAny P md ops Zs (fun f' S' => Q f' S' ∧ S'.WF ∧ Off W f f') n (L.setIfInBounds i true) (put f o.dst d) S' := fun d S' hS' hk =>
        sAny_mono (fun f' S' hq => ⟨hq.1, hq.2.1, (Off.put (Off.refl W f) h1 d).trans hq.2.2⟩) _ _ (sAny_more hw n _ hS' hk)
      rcases h2 with ⟨d, e1, e2⟩ | ⟨e1, e2⟩
      · exact .inl ⟨d, e1, go d S hS e2⟩
      · exact .inr ⟨e1, dop_mono (fun d S' hk => ⟨hk.1.1, go d S' hk.2 hk.1.2⟩) (dop_more hS e2)⟩
theorem dwp_more : ∀ (c : Code) {Q : DQ} {f : Fm} {S : St}, wrOk W c = true → S.WF → dwp P c Q f S → dwp P c (fun e f' S' => Q e f' S' ∧ S'.WF ∧ Off W f f') f S := by
  intro c
  induction c with
  | region id ops draw =>
    intro Q f S hw hS h
    have hw' : ∀ o ∈ ops.toList, dstOk W o.dst = true := fun o ho => Array.all_eq_true_iff_forall_mem.1 hw o (by simpa using ho)
    cases draw with
    | false => exact dops_more _ hw' hS h
    | true =>
      rcases h with ⟨n, h1, h2⟩ | ⟨Zs, n, h1, h2, h3⟩
      rotate_left
      · refine .inr ⟨Zs, n, h1, h2, sAny_mono (fun f' S' hq => ?_) _ _ (sAny_more (W := W) (fun j o ho => hw' o (by
          have := List.mem_of_getElem? (show (ops.toList.take n)[j]? = some o by simpa using ho)
          exact List.mem_of_mem_take this)) _ _ hS h3)⟩
        refine dops_mono (fun f'' S'' hk => ?_) _ (dops_more (W := W) _ (fun o ho => hw' o (List.mem_of_mem_drop ho)) hq.2.1 hq.1)
        exact ⟨hk.1, hk.2.1, hq.2.2.trans hk.2.2⟩
      refine .inl ⟨n, h1, dhead_mono (fun f' S' hq => ?_) _ (dhead_more (W := W) hS _ (fun o ho => hw' o (List.mem_of_mem_take ho)) h2)⟩
      refine dops_mono (fun f'' S'' hk => ?_) _ (dops_more (W := W) _ (fun o ho => hw' o (List.mem_of_mem_drop ho)) hq.2.1 hq.1)
      exact ⟨hk.1, hk.2.1, hq.2.2.trans hk.2.2⟩
  | seq x y ihx ihy =>
    intro Q f S hw hS h
    simp only [wrOk, Bool.and_eq_true] at hw
    refine dwp_mono x (fun e f2 S2 hq => ?_) (ihx hw.1 hS h)
    cases e with
    | normal =>
      refine dwp_mono y (fun e3 f3 S3 h3 => ?_) (ihy (Q := Q) hw.2 hq.2.1 hq.1)
      exact ⟨h3.1, h3.2.1, hq.2.2.trans h3.2.2⟩
    | exit i => exact hq
    | ret => exact hq
  | cond g x y ihx ihy =>
    intro Q f S hw hS h
    simp only [wrOk, Bool.and_eq_true] at hw
    unfold dwp at h ⊢
    generalize ev f g = u at h ⊢
    cases u with
    | v u => cases u with
      | bool b => exact ⟨fun e => ihx hw.1 hS (h.1 e), fun e => ihy hw.2 hS (h.2 e)⟩
      | _ => exact h
    | _ => exact h
  | block id c ih =>
    intro Q f S hw hS h
    refine dwp_mono c (fun e f2 S2 hq => ?_) (ih hw hS h)
    cases e with
    | normal => exact hq
    | ret => exact hq
    | exit i =>
      simp only [DQ.block] at *
      cases hb : Nat.beq i id with
      | true => rw [hb] at hq; exact hq
      | false => rw [hb] at hq; exact hq
  | loop c ih =>
    intro Q f S hw hS h
    obtain ⟨I, μ, h0, hr⟩ := h
    refine ⟨fun g T => I g T ∧ T.WF ∧ Off W f g, μ, ⟨h0, hS, Off.refl W f⟩, fun g T ⟨hI, hT, hg⟩ => ?_⟩
    refine dwp_mono c (fun e f2 S2 hq => ?_) (ih hw hT (hr g T hI))
    obtain ⟨hq, hwf, hoff⟩ := hq
    cases e with
    | normal =>
      obtain ⟨S'', ⟨s1, s2⟩, s3, s4⟩ := hq
      refine ⟨S'', ⟨s1, s2⟩, ⟨s3, fun k hk => ?_, hg.trans hoff⟩, s4⟩
      cases ho : S''.ob k with
      | none => rfl
      | some o => have := s2 k o ho; rw [hwf k (by omega)] at this; cases this
    | exit i => exact ⟨hq, hwf, hg.trans hoff⟩
    | ret => exact ⟨hq, hwf, hg.trans hoff⟩
  | skip => intro Q f S _ hS k; exact ⟨k, hS, Off.refl W f⟩
  | label l => intro Q f S _ hS k; exact ⟨k, hS, Off.refl W f⟩
  | exit i => intro Q f S _ hS k; exact ⟨k, hS, Off.refl W f⟩
  | ret => intro Q f S _ hS k; exact ⟨k, hS, Off.refl W f⟩
  | rangeFunc x ps aa b _ _ => intro Q f S _ _ k; exact k.elim
  | scope c _ => intro Q f S _ _ k; exact k.elim
  | goto l => intro Q f S _ _ k; exact k.elim
  | refuse s => intro Q f S _ _ k; exact k.elim
def dnextR (I : Nat → Fm → St → Prop) (m : Nat) (f' : Fm) (S' : St) : Prop := ∃ (m' : Nat) (ob : Nat → Option Ob), m' < m ∧ (∀ k o, ob k = some o → S'.ob k = some o) ∧ I m' f' ⟨S'.next, ob⟩
theorem least_of {p : Nat → Prop} (h : ∃ n, p n) : ∃ n, p n ∧ ∀ m, p m → n ≤ m := by
  obtain ⟨n, hn⟩ := h
  induction n using Nat.strongRecOn with
  | _ n ih =>
    by_cases hx : ∃ m, m < n ∧ p m
    · obtain ⟨m, h1, h2⟩ := hx
      exact ih m h1 h2
    · refine ⟨n, hn, fun m hm => ?_⟩
      rcases Nat.lt_or_ge m n with h1 | h1
      · exact absurd ⟨m, h1, hm⟩ hx
      · exact h1
theorem dloop_down {c : Code} {Q : DQ} {f : Fm} {S : St} (W : Nat → Bool) (hW : wrOk W c = true) (hS : S.WF) (I : Nat → Fm → St → Prop) (m : Nat) (h0 : I m f S)
    (hr : ∀ m g T, T.WF → Off W f g → I m g T → dwp P c (DQ.then (dnextR I m) Q) g T) : DLoop (dwp P c) Q f S := by
  classical
  let J : Fm → St → Nat → Prop := fun g T m => I m g T ∧ T.WF ∧ Off W f g
  refine ⟨fun g T => ∃ m, J g T m, fun g T => if h : ∃ m, J g T m then Classical.choose (least_of h) else 0, ⟨m, h0, hS, Off.refl W f⟩, fun g T hI => ?_⟩
  have hf := (Classical.choose_spec (least_of hI)).1
  obtain ⟨h1, h2, h3⟩ := hf
  refine dwp_mono c (fun e f2 S2 hq => ?_) (dwp_more (W := W) c hW h2 (hr _ g T h2 h3 h1))
  obtain ⟨hq, hwf, hoff⟩ := hq
  cases e with
  | normal =>
    obtain ⟨m', ob, k1, k2, k3⟩ := hq
    have hw2 : (St.mk S2.next ob).WF := fun k hk => by
      cases ho : ob k with
      | none => exact ho
      | some o => have := k2 k o ho; rw [hwf k hk] at this; cases this
    have hj : J f2 ⟨S2.next, ob⟩ m' := ⟨k3, hw2, h3.trans hoff⟩
    refine ⟨⟨S2.next, ob⟩, ⟨rfl, k2⟩, ⟨m', hj⟩, ?_⟩
    show (if h : ∃ m, J f2 ⟨S2.next, ob⟩ m then Classical.choose (least_of h) else 0) < (if h : ∃ m, J g T m then Classical.choose (least_of h) else 0)
    rw [dif_pos ⟨m', hj⟩, dif_pos hI]
    exact Nat.lt_of_le_of_lt ((Classical.choose_spec (least_of ⟨m', hj⟩)).2 m' hj) k1
  | exit i => exact hq
  | ret => exact hq
def dnextU (I : Nat → Fm → St → Prop) (n i : Nat) (f' : Fm) (S' : St) : Prop := i < n ∧ ∃ ob : Nat → Option Ob, (∀ k o, ob k = some o → S'.ob k = some o) ∧ I (i + 1) f' ⟨S'.next, ob⟩
theorem dloop_up {c : Code} {Q : DQ} {f : Fm} {S : St} (W : Nat → Bool) (hW : wrOk W c = true) (hS : S.WF) (n : Nat) (I : Nat → Fm → St → Prop) (h0 : I 0 f S)
    (hr : ∀ i g T, T.WF → Off W f g → I i g T → dwp P c (DQ.then (dnextU I n i) Q) g T) : DLoop (dwp P c) Q f S := by
  refine dloop_down W hW hS (fun m g T => ∃ i, m = n - i ∧ I i g T) (n - 0) ⟨0, rfl, h0⟩ fun m g T hT hg ⟨i, hm, hI⟩ => ?_
  subst hm
  refine dwp_mono c (fun e f2 S2 hq => ?_) (hr i g T hT hg hI)
  cases e with
  | normal =>
    obtain ⟨k1, ob, k2, k3⟩ := hq
    exact ⟨n - (i + 1), ob, by omega, k2, i + 1, rfl, k3⟩
  | exit i => exact hq
  | ret => exact hq
def dnextS (S : St) (I : Nat → Fm → Prop) (n i : Nat) (f' : Fm) (S' : St) : Prop := i < n ∧ S.Sub S' ∧ I (i + 1) f'
theorem dloop_st {c : Code} {Q : DQ} {f : Fm} {S : St} (W : Nat → Bool) (hW : wrOk W c = true) (hS : S.WF) (n : Nat) (I : Nat → Fm → Prop) (h0 : I 0 f)
    (hr : ∀ i g tn, S.next ≤ tn → (St.mk tn S.ob).WF → Off W f g → I i g → dwp P c (DQ.then (dnextS S I n i) Q) g ⟨tn, S.ob⟩) : DLoop (dwp P c) Q f S := by
  refine dloop_up W hW hS n (fun i g T => S.next ≤ T.next ∧ T.ob = S.ob ∧ I i g) ⟨Nat.le_refl _, rfl, h0⟩ fun i g T hT hg ⟨h1, h2, h3⟩ => ?_
  obtain ⟨tn, tob⟩ := T
  have h2' : tob = S.ob := h2
  subst h2'
  refine dwp_mono c (fun e f2 S2 hq => ?_) (hr i g tn h1 hT hg h3)
  cases e with
  | normal => exact ⟨hq.1, S.ob, hq.2.1.ob, hq.2.1.next, rfl, hq.2.2⟩
  | exit i => exact hq
  | ret => exact hq
def dnextV (S : St) (v : Nat) (b : Nat → Ob) (I : Nat → Fm → Prop) (n i : Nat) (f' : Fm) (S' : St) : Prop := i < n ∧ (S.set v (b (i + 1))).Sub S' ∧ I (i + 1) f'
theorem dloop_var {c : Code} {Q : DQ} {f : Fm} {S : St} (W : Nat → Bool) (hW : wrOk W c = true) (hS : S.WF) (n : Nat) (v : Nat) (b : Nat → Ob) (hv : S.ob v = some (b 0)) (I : Nat → Fm → Prop) (h0 : I 0 f)
    (hr : ∀ i g tn, S.next ≤ tn → (St.mk tn (S.set v (b i)).ob).WF → Off W f g → I i g → dwp P c (DQ.then (dnextV S v b I n i) Q) g ⟨tn, (S.set v (b i)).ob⟩) : DLoop (dwp P c) Q f S := by
  have hb : (S.set v (b 0)).ob = S.ob := by
    funext k
    simp only [St.set]
    split
    · rename_i h; rw [h, hv]
    · rfl
  refine dloop_up W hW hS n (fun i g T => S.next ≤ T.next ∧ T.ob = (S.set v (b i)).ob ∧ I i g) ⟨Nat.le_refl _, hb.symm, h0⟩ fun i g T hT hg ⟨h1, h2, h3⟩ => ?_
  obtain ⟨tn, tob⟩ := T
  have h2' : tob = (S.set v (b i)).ob := h2
  subst h2'
  refine dwp_mono c (fun e f2 S2 hq => ?_) (hr i g tn h1 hT hg h3)
  cases e with
  | normal => exact ⟨hq.1, (S.set v (b (i + 1))).ob, hq.2.1.ob, hq.2.1.next, rfl, hq.2.2⟩
  | exit i => exact hq
  | ret => exact hq
theorem St.Sub.upd {S X : St} {v tn : Nat} {b B B' : Ob} (hn : S.next ≤ tn) (hB : B' = B) (h : St.Sub ⟨tn, (S.set v b).ob⟩ X) : (S.set v B').Sub (X.set v B) := ⟨Nat.le_trans hn h.next, fun k o hk => by
  subst hB
  simp only [set_ob] at *
  split
  · rename_i e; rw [if_pos e] at hk; exact hk
  · rename_i e
    rw [if_neg e] at hk
    refine h.ob k o ?_
    show (S.set v b).ob k = _
    rw [set_ob, if_neg e]
    exact hk⟩
/-! A row that grows. -/
def rowOf (S : St) (own : Own) (e : TypeId) (n : Nat) : Nat → Option Ob := fun k => match own with
  | .row g => if k = g then some (.row e n) else S.ob k
  | _ => S.ob k
def RowOk (lo : Nat) (S : St) (own : Own) (n : Nat) : Prop := own = .full ∨ ∃ g, own = .row g ∧ lo ≤ g ∧ S.ob g = none ∧ g < n
theorem rowOf_some {lo : Nat} {S : St} {own : Own} {n : Nat} (h : RowOk lo S own n) {e : TypeId} {m k : Nat} {o : Ob} (hk : S.ob k = some o) : rowOf S own e m k = some o := by
  rcases h with rfl | ⟨g, rfl, _, h1, _⟩
  · exact hk
  · have : k ≠ g := fun e => by subst e; rw [h1] at hk; cases hk
    show (if k = g then _ else _) = _
    rw [if_neg this]
    exact hk
theorem RowOk.sub {lo : Nat} {S : St} {own : Own} {e : TypeId} {m n : Nat} (h : RowOk lo S own n) (hn : S.next ≤ n) : S.Sub ⟨n, rowOf S own e m⟩ := ⟨hn, fun k o hk => rowOf_some h hk⟩
theorem leave_next (S : St) (own : Own) : (S.leave own).next = S.next := by cases own <;> rfl
theorem aI {a b : Prop} (h : b) (ha : a := by with_reducible first | omega | assumption | rfl) : a ∧ b := ⟨ha, h⟩
theorem nx : (∀ (S : St) (o : Ob), (S.add o).next = S.next + 1) ∧ (∀ (S : St) (k : Nat) (o : Ob), (S.set k o).next = S.next) ∧ (∀ (S : St) (own : Own) (e : TypeId) (n : Nat), (S.grow own e n).next = S.next + 1) ∧ (∀ (S : St) (own : Own), (S.leave own).next = S.next) ∧ (∀ (S : St) (g : Nat), (S.drop g).next = S.next) ∧ (∀ (α β : Type) (f : α → β) (l : List α), (l.map f).length = l.length) :=
  ⟨add_next, set_next, grow_next, leave_next, drop_next, fun _ _ f l => List.length_map ..⟩
abbrev RowOk.lo {lo : Nat} {S : St} {own : Own} {n : Nat} (_ : RowOk lo S own n) : Nat := lo
end
end Go.Proofs.Ytgadflonnnkjcaa

namespace Go.Proofs.Ytgadflonnnkjcaa
open Go.RowKit

mutual
def D.thaw (k : Nat) (es : List D) : D → D
  | .agg cs => .agg (thawL k es cs)
  | .tup cs => .tup (thawL k es cs)
  | .win j off n c => bif Nat.beq j k && (Nat.beq off 0 && Nat.beq n es.length) then .sl .no es else .win j off n c
  | .v x => .v x
  | .fn f fs cs => .fn f fs cs
  | .ifc t d => .ifc t d
  | .loc j o => .loc j o
  | .rd cs o => .rd cs o
  | .sl o l => .sl o l
def thawL (k : Nat) (es : List D) : List D → List D
  | [] => []
  | d :: l => d.thaw k es :: thawL k es l
end
section
variable {P : Program} {base : Nat} {S : St} {η : Names} {w : World}
theorem win_cells (hM : Mem P base S η w) {k b : Nat} {e : TypeId} {es zs : List D} (hk : S.ob k = some (.box e (flat es ++ zs))) (hb : η k = some (some b)) (hw : ∀ d ∈ es, d.width = szOf P e) {X : Nat → Nat → Prop} (hX : ∀ i, X b i) {w' : World} {η' : Names} (hE : w' = w) (hK : ∀ {l : List D} {vs : List Value}, RepL P w η (Fix P S η) l vs → RepL P w' η' X l vs) : RepE P w' η' X (szOf P e) es b 0 := by
  subst hE
  obtain ⟨vs, h1, h2, h3⟩ := hM.box k e _ b hk hb
  refine RepE.of_flat hw ?_
  have h4 := RepC.mk (b := b) (o := 0) (hK h2) (fun j v hj => by
    rw [Nat.zero_add]
    have : w'.cell? ⟨b, j, none⟩ = vs.toArray[j]? := by simp [World.cell?, h1]
    rw [this]; simpa using hj) (fun j _ => hX _) h3
  exact h4.left.1
mutual
theorem Rep.thaw (hM : Mem P base S η w) {k : Nat} {e : TypeId} {es zs : List D} (hk : es = [] ∨ S.ob k = some (.box e (flat es ++ zs))) (hz : 0 < szOf P e) (hw : ∀ d ∈ es, d.width = szOf P e) : ∀ {d : D} {v : Value}, Rep P w η (Fix P S η) d v → Rep P w η (Fix P (S.drop k) η) (d.thaw k es) v
  | .v x, v, h => by simp only [D.thaw]; exact (goes_drop hM k).rep h
  | .fn f fs cs, v, h => by simp only [D.thaw]; exact (goes_drop hM k).rep h
  | .ifc t d, v, h => by simp only [D.thaw]; exact (goes_drop hM k).rep h
  | .loc j o, v, h => by simp only [D.thaw]; exact (goes_drop hM k).rep h
  | .rd cs o, v, h => by simp only [D.thaw]; exact (goes_drop hM k).rep h
  | .sl o l, v, h => by simp only [D.thaw]; exact (goes_drop hM k).rep h
  | .agg cs, v, h => by
    simp only [D.thaw, Rep] at *
    obtain ⟨vs, h1, h2, h3⟩ := h
    exact ⟨vs, h1, RepL.thaw hM hk hz hw h2, h3⟩
  | .tup cs, v, h => by
    simp only [D.thaw, Rep] at *
    obtain ⟨vs, h1, h2⟩ := h
    exact ⟨vs, h1, RepL.thaw hM hk hz hw h2⟩
  | .win j off n c, v, h => by
    cases hb : (Nat.beq j k && (Nat.beq off 0 && Nat.beq n es.length)) with
    | false =>
      have e1 : (D.win j off n c).thaw k es = .win j off n c := by simp only [D.thaw, hb, cond_false]
      rw [e1]
      exact (goes_drop hM k).rep h
    | true =>
      rw [Bool.and_eq_true, Bool.and_eq_true] at hb
      have e1 : j = k := Nat.eq_of_beq_eq_true hb.1
      have e4 : off = 0 := Nat.eq_of_beq_eq_true hb.2.1
      have e2 : n = es.length := Nat.eq_of_beq_eq_true hb.2.2
      subst e1 e2 e4
      have e3 : (D.win j 0 es.length c).thaw j es = .sl .no es := by simp [D.thaw]
      rw [e3]
      obtain ⟨A, h2, h3, h4, h1⟩ := h.win_slice
      simp only [Rep]
      refine ⟨A, c, h2, h3, h4, trivial, fun hpos => ?_⟩
      rcases hk with hk | hk
      · rw [hk] at hpos; exact absurd hpos (by simp)
      rcases h1 with ⟨b, h1, rfl⟩ | ⟨_, h1, _⟩
      rotate_left
      · omega
      refine ⟨b, 0, szOf P e, rfl, hz, ?_⟩
      refine win_cells hM hk h1 hw (fun i k' o hk' ho => ?_) rfl (fun hr => (goes_drop hM j).repL hr)
      by_cases hkj : k' = j
      · subst hkj
        simp [St.drop] at ho
      · simp only [St.drop, if_neg hkj] at ho
        exact absurd (hM.inj k' j b hk' h1 (by rw [ho]; rfl) (by rw [hk]; rfl)) hkj
theorem RepL.thaw (hM : Mem P base S η w) {k : Nat} {e : TypeId} {es zs : List D} (hk : es = [] ∨ S.ob k = some (.box e (flat es ++ zs))) (hz : 0 < szOf P e) (hw : ∀ d ∈ es, d.width = szOf P e) : ∀ {l : List D} {vs : List Value}, RepL P w η (Fix P S η) l vs → RepL P w η (Fix P (S.drop k) η) (thawL k es l) vs
  | [], vs, h => by simp only [thawL, RepL] at *; exact h
  | d :: l, vs, h => by
    simp only [thawL, RepL] at *
    obtain ⟨x, xs, h1, h2, h3⟩ := h
    exact ⟨x, xs, h1, Rep.thaw hM hk hz hw h2, RepL.thaw hM hk hz hw h3⟩
end
end
def ownOb (e : TypeId) (es zs : List D) (c : Nat) : Ob := bif Nat.beq c 0 then .row e 0 else .box e (flat es ++ zs)
theorem ownOb_box {e : TypeId} {es zs : List D} {c : Nat} (h : 0 < c) : ownOb e es zs c = .box e (flat es ++ zs) := by
  cases c with
  | zero => omega
  | succ c => rfl
theorem ownOb_nil (e : TypeId) (es zs : List D) : ownOb e es zs 0 = .row e 0 := rfl
theorem thaw_own {P : Program} {S : St} {k c : Nat} {e : TypeId} {es zs : List D} (hk : S.ob k = some (ownOb e es zs c)) (hc : es.length ≤ c) (hz : 0 < szOf P e) (hw : ∀ d ∈ es, d.width = szOf P e) {d d1 : D} (hd : d.thaw k es = d1) : Thaw P S d (S.drop k) d1 := fun base η w v hM hr => by
  refine ⟨η, goes_drop hM k, hd ▸ Rep.thaw (zs := zs) hM ?_ hz hw hr⟩
  rcases Nat.eq_zero_or_pos c with rfl | h
  · exact .inl (List.eq_nil_of_length_eq_zero (by omega))
  · rw [ownOb_box h] at hk
    exact .inr hk
theorem flat_cons (d : D) (l : List D) : flat (d :: l) = d.cells ++ flat l := by simp [flat]
theorem splice_flat : ∀ {es : List D} {zs : List D} {z : Nat} (i : Nat) {y : D}, i < es.length → (∀ d ∈ es, d.width = z) → y.width = z → splice (flat es ++ zs) (0 + i * z) y.cells = flat (es.set i y) ++ zs
  | [], _, _, i, _, h, _, _ => by simp at h
  | d :: es, zs, z, 0, y, _, hw, hy => by
    have h1 : d.cells.length = z := hw d (by simp)
    have h2 : y.cells.length = z := hy
    simp only [List.set_cons_zero, flat_cons, splice, Nat.zero_mul, Nat.add_zero, List.take_zero, List.nil_append, Nat.zero_add, h2, List.append_assoc]
    rw [List.drop_append, List.drop_of_length_le (by omega), h1, Nat.sub_self, List.drop_zero, List.nil_append]
  | d :: es, zs, z, i + 1, y, hi, hw, hy => by
    have h1 : d.cells.length = z := hw d (by simp)
    have ih := splice_flat (es := es) (zs := zs) (z := z) i (y := y) (by simpa using hi) (fun d' hd' => hw d' (by simp [hd'])) hy
    simp only [List.set_cons_succ, flat_cons, List.append_assoc]
    rw [← ih]
    simp only [splice, Nat.zero_add]
    have e1 : (i + 1) * z = z + i * z := by rw [Nat.add_mul]; omega
    rw [e1, List.take_append, List.drop_append, h1]
    rw [List.take_of_length_le (l := d.cells) (by omega), List.drop_of_length_le (l := d.cells) (by omega)]
    rw [show z + i * z - z = i * z by omega, show z + i * z + y.cells.length - z = i * z + y.cells.length by omega]
    simp [List.append_assoc]
theorem splice_flat' {es zs : List D} {z i : Nat} {y : D} (hi : i < es.length) (hw : ∀ d ∈ es, d.width = z) (hy : y.width = z) : List.take (i * z) (flat es ++ zs) ++ y.cells ++ List.drop (i * z + z) (flat es ++ zs) = flat (es.set i y) ++ zs := by
  have := splice_flat (zs := zs) i hi hw hy
  rw [← this]
  simp only [splice, Nat.zero_add]
  rw [show y.cells.length = z from hy]
theorem dquietR_of {P : Program} {f : Fm} {S : St} {ty : TypeId} {op : Op} {d : D} (h : dquiet P f S ty op fun d' => d' = d) : dquietR P f S ty op d := by
  obtain ⟨d', h1, rfl⟩ := dquiet_iff.1 h
  exact h1
end Go.Proofs.Ytgadflonnnkjcaa

namespace Go.Proofs.Ytgadflonnnkjcaa
open Go.RowKit

def SrcOk (S : St) (z : Nat) (d : D) (m : Nat) (news : List D) : Prop := match d with
  | .sl _ es => (∀ x ∈ es, x.width = z) ∧ m = es.length ∧ news = flat es
  | .win k off n _ => m = n ∧ (n = 0 ∧ news = [] ∨ ∃ t cs, S.ob k = some (.box t cs) ∧ off + n * z ≤ cs.length ∧ news = (cs.drop off).take (n * z))
  | _ => False
theorem srcOk_sl {S : St} {z : Nat} {o : Own} {es : List D} (h : ∀ x ∈ es, x.width = z) : SrcOk S z (.sl o es) es.length (flat es) := ⟨h, rfl, rfl⟩
theorem srcOk_one {S : St} {z : Nat} {o : Own} {x : D} (h : x.width = z) : SrcOk S z (.sl o [x]) 1 (flat [x]) := ⟨fun y hy => by rw [List.mem_singleton] at hy; subst hy; exact h, rfl, rfl⟩
theorem srcOk_win {S : St} {z k off n c : Nat} {t : TypeId} {cs : List D} (hk : S.ob k = some (.box t cs)) (h : off + n * z ≤ cs.length) : SrcOk S z (.win k off n c) n ((cs.drop off).take (n * z)) := ⟨rfl, .inr ⟨t, cs, hk, h, rfl⟩⟩
structure SrcAt (w : World) (z : Nat) (v : Value) (m : Nat) (us : List Value) : Prop where
  sl : ∃ A c, v = .slice A m c ∧ m ≤ 140737488355328 ∧ ((A = none ∧ m = 0) ∨ ∃ a, A = some a ∧ ∀ (j : Nat) u, us[j]? = some u → w.cell? (a.add j) = some u)
  len : us.length = m * z
  one : ∀ u ∈ us, u.oneCell' = true
section
variable {P : Program} {base : Nat} {S : St} {η : Names} {w : World}
theorem take_mul {α : Type} {l : List α} {q m z : Nat} (h : l.length = m * z) (hq : q ≤ m) : (l.take (q * z)).length = q * z := by
  rw [List.length_take, h]
  exact Nat.min_eq_left (Nat.mul_le_mul_right _ hq)
theorem SrcOk.length {z : Nat} {d : D} {m : Nat} {news : List D} (h : SrcOk S z d m news) : news.length = m * z := by
  cases d with
  | sl o es => obtain ⟨h1, rfl, rfl⟩ := h; exact dflat_length h1
  | win k off n c =>
    obtain ⟨rfl, ⟨h1, rfl⟩ | ⟨t, cs, _, h2, rfl⟩⟩ := h
    · rw [h1]; simp
    · rw [List.length_take, List.length_drop]; omega
  | _ => exact h.elim
theorem srcOk_at (hM : Mem P base S η w) {z : Nat} {d : D} {m : Nat} {news : List D} {v : Value} (hs : SrcOk S z d m news) (hr : Rep P w η (Fix P S η) d v) :
    ∃ us, SrcAt w z v m us ∧ RepL P w η (Fix P S η) news us := by
  cases d with
  | sl o es =>
    obtain ⟨h1, rfl, rfl⟩ := hs
    simp only [Rep] at hr
    obtain ⟨A, c, rfl, h2, h3, h4, h5⟩ := hr
    rcases Nat.eq_zero_or_pos es.length with h0 | h0
    · have : es = [] := List.eq_nil_of_length_eq_zero h0
      subst this
      refine ⟨[], ⟨⟨A, c, rfl, by simp, ?_⟩, by simp, fun u hu => by cases hu⟩, by simp [flat, RepL]⟩
      cases A with
      | none => exact .inl ⟨rfl, rfl⟩
      | some a => exact .inr ⟨a, rfl, fun j u hu => by simp at hu⟩
    · obtain ⟨b, o, z', rfl, hz', hr⟩ := h5 h0
      obtain ⟨k1, k2⟩ := RepE.flat hr
      obtain ⟨vs, g1, g2, g3, g4⟩ := k2.range
      exact ⟨vs, ⟨⟨_, c, rfl, h3, .inr ⟨_, rfl, fun j u hu => by rw [Addr.add_mid]; exact g2 j u hu⟩⟩, by rw [g1, dflat_length h1], g4⟩, g3⟩
  | win k off n c =>
    obtain ⟨rfl, h⟩ := hs
    obtain ⟨A, rfl, h2, h3, h4⟩ := hr.win_slice
    rcases h with ⟨rfl, rfl⟩ | ⟨t, cs, h5, h6, rfl⟩
    · refine ⟨[], ⟨⟨A, c, rfl, by simp, ?_⟩, by simp, fun u hu => by cases hu⟩, by simp [RepL]⟩
      cases A with
      | none => exact .inl ⟨rfl, rfl⟩
      | some a => exact .inr ⟨a, rfl, fun j u hu => by simp at hu⟩
    · obtain ⟨b, hb⟩ := hM.live k t cs h5
      rcases h4 with ⟨b', h4, rfl⟩ | ⟨h4, _⟩
      rotate_left
      · rw [hb] at h4; cases h4
      have : b' = b := by rw [hb] at h4; injection h4 with h4; injection h4 with h4; exact h4.symm
      subst this
      obtain ⟨vs, g1, g2, g3⟩ := hM.box k t cs b' h5 hb
      have hl := g2.length
      refine ⟨(vs.drop off).take (m * z), ⟨⟨_, c, rfl, h3, .inr ⟨_, rfl, fun j u hu => ?_⟩⟩, by rw [List.length_take, List.length_drop]; omega, fun u hu => g3 u (List.mem_of_mem_drop (List.mem_of_mem_take hu))⟩, (g2.drop off).take _⟩
      rw [Addr.add_mid]
      have : w.cell? ⟨b', off + j, none⟩ = vs.toArray[off + j]? := by simp [World.cell?, g1]
      rw [this]
      rw [List.getElem?_take] at hu
      split at hu
      · rw [List.getElem?_drop] at hu
        simpa using hu
      · cases hu
  | _ => exact hs.elim
theorem SrcAt.src {z : Nat} {v : Value} {m : Nat} {us : List Value} {tx : TypeId} (h : SrcAt w z v m us) (ht : (elT P tx).isSome = true) : Src P z tx v m us w := by
  obtain ⟨e', he'⟩ := Option.isSome_iff_exists.1 ht
  have hk := elT_spec he'
  obtain ⟨⟨A, c, rfl, _, ⟨rfl, rfl⟩ | ⟨a, rfl, ha⟩⟩, h2, h3⟩ := h
  · have : us = [] := List.eq_nil_of_length_eq_zero (by rw [h2]; simp)
    subst this
    exact Src.ofNil w hk c
  · exact Src.ofSlice w hk a m c us h2 ha h3
theorem SrcAt.first {z : Nat} {v : Value} {m : Nat} {us : List Value} (h : SrcAt w z v m us) {q : Nat} (hq : q ≤ m) : (Builtin.firstCells z q v).run P w = .ok (us.take (q * z)).toArray w := by
  obtain ⟨⟨A, c, rfl, _, ⟨rfl, rfl⟩ | ⟨a, rfl, ha⟩⟩, h2, h3⟩ := h
  · have : us = [] := List.eq_nil_of_length_eq_zero (by rw [h2]; simp)
    subst this
    simp [run_firstCells_none]
  · refine run_firstCells_some w z q a m c _ (take_mul h2 hq) fun j u hu => ha j u ?_
    rw [List.getElem?_take] at hu
    split at hu
    · exact hu
    · cases hu
theorem SrcAt.lenOf {z : Nat} {v : Value} {m : Nat} {us : List Value} (h : SrcAt w z v m us) (w' : World) : (Builtin.lenOf v).run P w' = .ok m w' := by
  obtain ⟨⟨A, c, rfl, _⟩, _⟩ := h
  rfl
theorem win_live (hM : Mem P base S η w) {k off n c : Nat} {t : TypeId} {cs : List D} {v : Value} (hk : S.ob k = some (.box t cs)) (hr : Rep P w η (Fix P S η) (.win k off n c) v) :
    ∃ b vs, v = .slice (some ⟨b, off, none⟩) n c ∧ η k = some (some b) ∧ w.heap[b]? = some (.cells vs.toArray t (0, 0)) ∧ RepL P w η (Fix P S η) cs vs ∧ (∀ x ∈ vs, x.oneCell' = true) ∧ n ≤ c ∧ n ≤ 140737488355328 := by
  obtain ⟨A, rfl, h2, h3, h4⟩ := hr.win_slice
  obtain ⟨b, hb⟩ := hM.live k t cs hk
  rcases h4 with ⟨b', h4, rfl⟩ | ⟨h4, _⟩
  · have : b' = b := by rw [hb] at h4; injection h4 with h4; injection h4 with h4; exact h4.symm
    subst this
    obtain ⟨vs, g1, g2, g3⟩ := hM.box k t cs b' hk hb
    exact ⟨b', vs, rfl, h4, g1, g2, g3, h2, h3⟩
  · rw [hb] at h4; cases h4
theorem splice_len {cs ds : List D} {off : Nat} (h : off + ds.length ≤ cs.length) : (splice cs off ds).length = cs.length := by
  simp only [splice, List.length_append, List.length_take, List.length_drop]
  omega
theorem one_splice {vs us : List Value} {off : Nat} (h : ∀ x ∈ vs, x.oneCell' = true) (k : ∀ x ∈ us, x.oneCell' = true) : ∀ x ∈ vs.take off ++ us ++ vs.drop (off + us.length), x.oneCell' = true := fun u hu => by
  rcases List.mem_append.1 hu with hu | hu
  · rcases List.mem_append.1 hu with hu | hu
    · exact h u (List.mem_of_mem_take hu)
    · exact k u hu
  · exact h u (List.mem_of_mem_drop hu)
theorem dcopy_win {t tx ty e : TypeId} (he : elT P t = some e) (hi : (P.info? e).isSome = true) {k off n c m : Nat} {bt : TypeId} {cs news : List D} {y : D} {K : D → St → Prop} (hk : S.ob k = some (.box bt cs)) (hs : SrcOk S (szOf P e) y m news) (hfit : off + Nat.min m n * szOf P e ≤ cs.length)
    {cs' : List D} (hcs : splice cs off (news.take (Nat.min m n * szOf P e)) = cs') (h : K (.v (.int .i64 (Nat.min m n : Nat))) (S.set k (.box bt cs'))) : dcopy P #[t, tx] ty (.win k off n c) y S K := by
  subst hcs
  intro base η w vs hM hr
  simp only [RepL] at hr
  obtain ⟨x1, _, rfl, r1, x2, _, rfl, r2, rfl⟩ := hr
  obtain ⟨us, s1, s2⟩ := srcOk_at hM hs r2
  obtain ⟨b, bs, rfl, hb, g1, g2, g3, g4, g5⟩ := win_live hM hk r1
  obtain ⟨i, hi⟩ := Option.isSome_iff_exists.1 hi
  have hsz : szOf P e = i.size := by simp [szOf, hi]
  have hu := elT_spec he
  have hl := g2.length
  have hul := take_mul s1.len (Nat.min_le_left m n)
  have hf := s1.first (P := P) (Nat.min_le_left m n)
  have h1 : ∀ u ∈ us.take (Nat.min m n * szOf P e), u.oneCell' = true := fun u hu => s1.one u (List.mem_of_mem_take hu)
  have hst := run_storeCells_at P b off bt (us.take (Nat.min m n * szOf P e)) 0 bs.toArray w g1 (by rw [Nat.add_zero, hul, List.size_toArray, hl]; exact hfit) h1
  simp only [Nat.add_zero] at hst
  have hnl := take_mul hs.length (Nat.min_le_left m n)
  have G := goes_set hM hk hb (splice_len (by rw [hnl]; exact hfit)) (splice_rep g2 (s2.take (Nat.min m n * szOf P e))) (one_splice g3 h1)
  refine ⟨_, _, η, .int .i64 (Nat.min m n : Nat), _, ?_, h, by simp only [Rep], G⟩
  rw [hsz] at hf hst ⊢
  simp [Builtin.copy_, run_underlying hu, s1.lenOf, sizeOf, typeInfo, hi, hf, hst, goInt]
theorem run_append_room_at (w : World) (t tx ty e : TypeId) (i : TypeInfo) (ht : P.underlying t = some (.slice e)) (hi : P.info? e = some i) (b off sLen sCap : Nat) (bt : TypeId) (x : Value) (n : Nat) (news : List Value) (hs : Src P i.size tx x n news w)
    (cur : Array Value) (hg : w.heap[b]? = some (.cells cur bt (0, 0))) (hroom : sLen + n ≤ sCap) (hfit : off + sLen * i.size + news.length ≤ cur.size) :
    (Builtin.append_ #[t, tx] ty #[.slice (some ⟨b, off, none⟩) sLen sCap, x]).run P w = .ok (.slice (some ⟨b, off, none⟩) (sLen + n) sCap) (w.setRow b (cur.toList.take (off + sLen * i.size) ++ news ++ cur.toList.drop (off + sLen * i.size + news.length)).toArray) := by
  have hst := run_storeCells_at P b (off + sLen * i.size) bt news 0 cur w hg (by simpa using hfit) hs.one
  simp only [Nat.add_zero] at hst
  rcases hs.kind with ⟨e', hk⟩ | hk <;> simp [Builtin.append_, run_underlying ht, run_underlying hk, sizeOf, typeInfo, hi, hs.len, hroom, hs.cells, Addr.add_lit, hst]
def dappW (P : Program) (t tx ty : TypeId) (x y : D) (S : St) (K : D → St → Prop) : Prop := DRun P (fun vs => Builtin.append_ #[t, tx] ty vs.toArray) [x, y] S K
theorem dapp_atw {t tx ty : TypeId} {k off n c : Nat} {y : D} {K : D → St → Prop} : dapp P S t tx ty (.win k off n c) y K = dappW P t tx ty (.win k off n c) y S K := rfl
attribute [go_sem] dapp_atw
theorem dapp_nil {t tx ty e : TypeId} {own o2 : Own} {es es2 : List D} {K : D → St → Prop} (he : elT P t = some e) (h : dappW P t tx ty (.sl own es) (.sl o2 es2) S K) : dapp P S t tx ty (.sl own es) (.sl o2 es2) K := dapp_step he h
theorem dappend_in {t tx ty e : TypeId} (he : elT P t = some e) (hx : (elT P tx).isSome = true) (hi : (P.info? e).isSome = true) {k off n c m : Nat} {bt : TypeId} {cs news : List D} {y : D} {K : D → St → Prop} (hk : S.ob k = some (.box bt cs)) (hs : SrcOk S (szOf P e) y m news)
    (hroom : n + m ≤ c) (hb : n + m ≤ 140737488355328) (hfit : off + (n + m) * szOf P e ≤ cs.length) {cs' : List D} (hcs : splice cs (off + n * szOf P e) news = cs') (h : K (.win k off (n + m) c) (S.set k (.box bt cs'))) : dappW P t tx ty (.win k off n c) y S K := by
  subst hcs
  intro base η w vs hM hr
  simp only [RepL] at hr
  obtain ⟨x1, _, rfl, r1, x2, _, rfl, r2, rfl⟩ := hr
  obtain ⟨us, s1, s2⟩ := srcOk_at hM hs r2
  obtain ⟨b, bs, rfl, hbb, g1, g2, g3, g4, g5⟩ := win_live hM hk r1
  obtain ⟨i, hi⟩ := Option.isSome_iff_exists.1 hi
  have hsz : szOf P e = i.size := by simp [szOf, hi]
  have hu := elT_spec he
  have hl := g2.length
  have hf : off + n * szOf P e + us.length ≤ bs.toArray.size := by
    rw [s1.len, List.size_toArray, hl, Nat.add_assoc, ← Nat.add_mul]; exact hfit
  have hrun := run_append_room_at (P := P) w t tx ty e i hu hi b off n c bt x2 m us (hsz ▸ s1.src hx) bs.toArray g1 hroom (hsz ▸ hf)
  have G := goes_set hM hk hbb (splice_len (by rw [hs.length, Nat.add_assoc, ← Nat.add_mul]; exact hfit)) (splice_rep g2 s2) (one_splice (off := off + n * szOf P e) g3 s1.one)
  refine ⟨_, _, η, _, _, hrun, h, by simp only [Rep]; exact .inl ⟨b, hbb, rfl, hroom, hb⟩, ?_⟩
  rw [← hsz]
  exact G
theorem dappend_new {t tx ty e : TypeId} (he : elT P t = some e) (hx : (elT P tx).isSome = true) (hz : zeroT P e = true) (hz2 : zeroOk P e = true) {n c m : Nat} {x : D} {olds news : List D} {y : D} {K : D → St → Prop} (ho : SrcOk S (szOf P e) x n olds) (hxc : ∀ k' off' n' c', x = .win k' off' n' c' → c' = c) (hxs : ∀ o es, x = .sl o es → o = .full ∧ c = es.length) (hs : SrcOk S (szOf P e) y m news)
    (hgrow : c < n + m) (hb : n + m ≤ 140737488355328) (hby : (n + m) * bytesOf P e ≤ 140737488355328)
    (h : ∀ (c' : Nat) (zs : List D), n + m ≤ c' → (olds ++ news ++ zs).length = c' * szOf P e → K (.win S.next 0 (n + m) c') (S.add (.box e (olds ++ news ++ zs)))) : dappW P t tx ty x y S K := by
  intro base η w vs hM hr
  simp only [RepL] at hr
  obtain ⟨x1, _, rfl, r1, x2, _, rfl, r2, rfl⟩ := hr
  obtain ⟨us, s1, s2⟩ := srcOk_at hM hs r2
  obtain ⟨os, o1, o2⟩ := srcOk_at hM ho r1
  obtain ⟨i, z, hi, hzr, hzs, hpos, hsz, hbz⟩ := zeroT_spec hz
  obtain ⟨z2, i2, hi2, hz2r, _, hz1, _⟩ := zeroOk_spec hz2
  rw [hi] at hi2
  injection hi2 with hi2
  subst hi2
  rw [hzr] at hz2r
  injection hz2r with hz2r
  subst hz2r
  have hu := elT_spec he
  have hel : (elT P t).isSome = true := by rw [he]; rfl
  obtain ⟨A, cc, e1, _, _⟩ := o1.sl
  have hcc : cc = c := by
    cases x with
    | win k' off' n' c' =>
      obtain ⟨A', e2, _⟩ := r1.win_slice
      rw [e1] at e2
      injection e2 with _ _ e2
      rw [e2]
      exact hxc _ _ _ _ rfl
    | sl o es =>
      obtain ⟨rfl, rfl⟩ := hxs _ _ rfl
      simp only [Rep, OwnAt] at r1
      obtain ⟨A', c', e2, _, _, rfl, _⟩ := r1
      rw [e1] at e2
      injection e2 with _ _ e2
    | _ => exact ho.elim
  subst hcc
  subst e1
  have hso := o1.src hel
  have hsn := s1.src hx
  rw [hsz] at hso hsn
  have hcold := hso.cellsD
  have hrun := run_append_grow_src (P := P) w t tx ty e i z hu hi hzr A n cc os hcold x2 m us hsn hgrow (by omega) (growslice_fits hgrow (by rw [← hbz]; exact hby))
  have G1 := goes_drew hM
  have hge := grownCap_ge w (n + m) cc e
  have G3 := G1.trans (goes_name G1.mem (.box e (olds ++ news ++ (Builtin.zeroCells z.cells (grownCap w (n + m) cc e - (n + m))).toList.map ofV)) ((os ++ us).toArray ++ Builtin.zeroCells z.cells (grownCap w (n + m) cc e - (n + m))) e
    (.inl ⟨_, os ++ us ++ (Builtin.zeroCells z.cells (grownCap w (n + m) cc e - (n + m))).toList, rfl, by apply Array.ext'; simp, RepL.append (RepL.append (G1.repL o2) (G1.repL s2)) (zeroD_rep _), fun u hu' => (List.mem_append.1 hu').elim (fun hh => (List.mem_append.1 hh).elim (o1.one u) (s1.one u)) fun hh => hz1 u (zeroCells_mem hh)⟩))
  refine ⟨_, _, _, _, _, hrun, h _ _ hge ?_, ?_, G3⟩
  · have e1 := size_zeroCells z.cells (grownCap w (n + m) cc e - (n + m))
    rw [← Array.length_toList] at e1
    rw [List.length_append, List.length_append, List.length_map, ho.length, hs.length, e1, hzs, hsz, ← Nat.add_mul, ← Nat.add_mul]
    congr 1
    omega
  · simp only [Rep]
    exact .inl ⟨w.heap.size, by simp only [Names.add, ↓reduceIte]; rfl, rfl, hge, hb⟩
/-! ### Owned slices -/
theorem DRun.thaw {run : List Value → Sem Value} {args : List D} {K : D → St → Prop} (h : DRun P run args S fun d S' => ∃ S1 d1, Thaw P S' d S1 d1 ∧ K d1 S1) : DRun P run args S K := fun base η w vs hM hr => by
  obtain ⟨d, S', η', v, w', h1, ⟨S1, d1, h2, h3⟩, h4, h5⟩ := h base η w vs hM hr
  obtain ⟨η2, k1, k2⟩ := h2 base η' w' v h5.mem h4
  exact ⟨d1, S1, η2, v, w', h1, h3, k2, h5.trans k1⟩
theorem DCalls.thaw {g : FuncId} {args : List D} {K : D → St → Prop} (h : DCalls P g args S fun d S' => ∃ S1 d1, Thaw P S' d S1 d1 ∧ K d1 S1) : DCalls P g args S K := fun base η w vs hM hr => by
  rcases h base η w vs hM hr with ⟨h1, h2⟩ | ⟨d, S', η', v, w', h1, ⟨S1, d1, h2, h3⟩, h4, h5⟩
  · refine .inl ⟨h1, h2.mono fun e w' ⟨d, S', η', v, ⟨S1, d1, h2, h3⟩, he, h4, h5⟩ => ?_⟩
    obtain ⟨η2, k1, k2⟩ := h2 base η' w' v h5.mem h4
    exact ⟨d1, S1, η2, v, h3, he, k2, h5.trans k1⟩
  · obtain ⟨η2, k1, k2⟩ := h2 base η' w' v h5.mem h4
    exact .inr ⟨d1, S1, η2, v, w', h1, h3, k2, h5.trans k1⟩
theorem goes_rename (h : Mem P base S η w) {k : Nat} {o : Ob} {b : Option Nat} (hk : S.ob k = some o) (hb : η k = some b) : Goes P base S η w ((S.drop k).add o) (η.add S.next b) w := by
  have hkn : k < S.next := h.lt (by rw [hb]; rfl)
  have ob_new : ((S.drop k).add o).ob S.next = some o := by simp [St.add, St.drop]
  have ob_old : ∀ j, j ≠ S.next → ((S.drop k).add o).ob j = if j = k then none else S.ob j := fun j hj => by simp [St.add, St.drop, hj]
  have ob_some : ∀ j o', ((S.drop k).add o).ob j = some o' → (j = S.next ∧ o' = o) ∨ (j ≠ S.next ∧ j ≠ k ∧ S.ob j = some o') := fun j o' hj => by
    by_cases e : j = S.next
    · subst e; rw [ob_new] at hj; injection hj with hj; exact .inl ⟨rfl, hj.symm⟩
    · rw [ob_old j e] at hj
      by_cases e2 : j = k
      · rw [if_pos e2] at hj; cases hj
      · rw [if_neg e2] at hj; exact .inr ⟨e, e2, hj⟩
  have eta_new : (η.add S.next b) S.next = some b := by simp [Names.add]
  have eta_old : ∀ j, j ≠ S.next → (η.add S.next b) j = η j := fun j hj => by simp [Names.add, hj]
  have K : Keep (fun _ => True) w η (Fix P S η) w (η.add S.next b) (Fix P ((S.drop k).add o) (η.add S.next b)) := by
    refine ⟨Nat.le_refl _, fun q i _ hx => ⟨fun j o' hj ho => ?_, rfl⟩, fun j c _ hj => ?_, fun q cur e hq => ⟨cur, hq, rfl⟩⟩
    · rcases ob_some j o' ho with ⟨rfl, rfl⟩ | ⟨e1, e2, e3⟩
      · rw [eta_new] at hj
        injection hj with hj
        exact hx k o' (by rw [hb, hj]) hk
      · rw [eta_old j e1] at hj
        exact hx j o' hj e3
    · have : j ≠ S.next := fun e => by subst e; rw [h.dead _ (Nat.le_refl _)] at hj; cases hj
      rw [eta_old j this]; exact hj
  have src : ∀ j b', (η.add S.next b) j = some (some b') → (((S.drop k).add o).ob j).isSome = true → ∃ j', η j' = some (some b') ∧ (S.ob j').isSome = true ∧ ((j = S.next ∧ j' = k) ∨ (j ≠ S.next ∧ j ≠ k ∧ j' = j)) := fun j b' hj ho => by
    obtain ⟨o', ho⟩ := Option.isSome_iff_exists.1 ho
    rcases ob_some j o' ho with ⟨rfl, rfl⟩ | ⟨e1, e2, e3⟩
    · rw [eta_new] at hj
      injection hj with hj
      exact ⟨k, by rw [hb, hj], by rw [hk]; rfl, .inl ⟨rfl, rfl⟩⟩
    · rw [eta_old j e1] at hj
      exact ⟨j, hj, by rw [e3]; rfl, .inr ⟨e1, e2, rfl⟩⟩
  refine ⟨⟨h.base_, fun j hj => ?_, fun j hj => ?_, fun j t cs hj => ?_, fun j j' b' h1 h2 h3 h4 => ?_, fun j b' hj => ?_, fun j t cs b' h1 h2 => ?_, fun j e n b' h1 h2 => ?_, h.glob⟩, K, Below.refl _ _, fun _ => Nat.le_refl _⟩
  · have hj' : S.next + 1 ≤ j := hj
    rw [eta_old j (by omega)]; exact h.dead j (by omega)
  · have hj' : S.next + 1 ≤ j := hj
    rw [ob_old j (by omega), if_neg (by omega)]; exact h.fresh j (by omega)
  · rcases ob_some j _ hj with ⟨rfl, rfl⟩ | ⟨e1, e2, e3⟩
    · obtain ⟨b', hb'⟩ := h.live k t cs hk
      rw [hb] at hb'
      injection hb' with hb'
      exact ⟨b', by rw [eta_new, hb']⟩
    · obtain ⟨b', hb'⟩ := h.live j t cs e3
      exact ⟨b', by rw [eta_old j e1]; exact hb'⟩
  · obtain ⟨i, a1, a2, a3⟩ := src j b' h1 h3
    obtain ⟨i', c1, c2, c3⟩ := src j' b' h2 h4
    have := h.inj i i' b' a1 c1 a2 c2
    rcases a3 with ⟨rfl, rfl⟩ | ⟨a3, a4, rfl⟩ <;> rcases c3 with ⟨rfl, rfl⟩ | ⟨c3, c4, rfl⟩
    · rfl
    · exact absurd this.symm c4
    · exact absurd this a4
    · exact this
  · by_cases e : j = S.next
    · subst e
      rw [eta_new] at hj
      injection hj with hj
      exact h.in_ k b' (by rw [hb, hj])
    · rw [eta_old j e] at hj; exact h.in_ j b' hj
  · rcases ob_some j _ h1 with ⟨rfl, rfl⟩ | ⟨e1, e2, e3⟩
    · rw [eta_new] at h2
      injection h2 with h2
      obtain ⟨vs, k1, k2, k3⟩ := h.box k t cs b' hk (by rw [hb, h2])
      exact ⟨vs, k1, RepL.keep K (allL_true _) k2, k3⟩
    · rw [eta_old j e1] at h2
      obtain ⟨vs, k1, k2, k3⟩ := h.box j t cs b' e3 h2
      exact ⟨vs, k1, RepL.keep K (allL_true _) k2, k3⟩
  · rcases ob_some j _ h1 with ⟨rfl, rfl⟩ | ⟨e1, e2, e3⟩
    · rw [eta_new] at h2
      injection h2 with h2
      exact h.row k e n b' hk (by rw [hb, h2])
    · rw [eta_old j e1] at h2
      exact h.row j e n b' e3 h2
theorem thaw_rename {k off n c : Nat} {o : Ob} (hk : S.ob k = some o) : Thaw P S (.win k off n c) ((S.drop k).add o) (.win S.next off n c) := fun base η w v hM hr => by
  simp only [Rep] at hr
  rcases hr with ⟨b, h1, h2⟩ | ⟨h1, h2⟩
  · exact ⟨_, goes_rename hM hk h1, by simp only [Rep]; exact .inl ⟨b, by simp [Names.add], h2⟩⟩
  · exact ⟨_, goes_rename hM hk h1, by simp only [Rep]; exact .inr ⟨by simp [Names.add], h2⟩⟩
theorem thaw_drop (k : Nat) (d : D) : Thaw P S d (S.drop k) d := fun base η w v hM hr => ⟨η, goes_drop hM k, (goes_drop hM k).rep hr⟩
theorem thaw_nil (e : TypeId) : Thaw P S (.sl .full []) (S.add (.row e 0)) (.win S.next 0 0 0) := fun base η w v hM hr => by
  simp only [Rep, OwnAt] at hr
  obtain ⟨A, c, rfl, _, _, rfl, _⟩ := hr
  refine ⟨_, goes_bare hM e 0, ?_⟩
  unfold Rep
  exact .inr ⟨by simp [Names.add], rfl, rfl, A, rfl⟩
theorem St.set_drop (S : St) (k : Nat) (o : Ob) : (S.set k o).drop k = S.drop k := by
  unfold St.set St.drop
  congr 1
  funext j
  by_cases h : j = k <;> simp [h]
theorem St.add_set (S : St) (o o' : Ob) : (S.add o).set S.next o' = S.add o' := by
  unfold St.set St.add
  congr 1
  funext j
  by_cases h : j = S.next <;> simp [h]
theorem St.set_set (S : St) (k : Nat) (o o' : Ob) : (S.set k o).set k o' = S.set k o' := by
  unfold St.set
  congr 1
  funext j
  by_cases h : j = k <;> simp [h]
theorem St.add_drop (S : St) {k : Nat} (o : Ob) (h : k < S.next) : (S.add o).drop k = (S.drop k).add o := by
  unfold St.add St.drop
  congr 1
  funext j
  by_cases h1 : j = k
  · subst h1
    simp
    omega
  · simp [h1]
theorem flat_append (l m : List D) : flat (l ++ m) = flat l ++ flat m := by simp [flat]
theorem ownOb_len {es zs : List D} {c z : Nat} (hw : ∀ d ∈ es, d.width = z) (hz : 0 < z) (h : (flat es ++ zs).length = c * z) : es.length ≤ c := by
  rw [List.length_append, dflat_length hw] at h
  rcases Nat.lt_or_ge c es.length with h' | h'
  · have : (c + 1) * z ≤ es.length * z := Nat.mul_le_mul_right _ h'
    rw [Nat.add_mul] at this
    omega
  · exact h'
theorem flat_take {es : List D} {z : Nat} (hw : ∀ d ∈ es, d.width = z) (q : Nat) : (flat es).take (q * z) = flat (es.take q) := by
  induction es generalizing q with
  | nil => simp [flat]
  | cons d es ih =>
    cases q with
    | zero => simp [flat]
    | succ q =>
      have h1 : d.cells.length = z := hw d (by simp)
      have h2 := ih (fun x hx => hw x (by simp [hx])) q
      have e1 : flat (d :: es) = d.cells ++ flat es := by simp [flat]
      have e2 : flat (d :: es.take q) = d.cells ++ flat (es.take q) := by simp [flat]
      rw [e1, List.take_succ_cons, e2, ← h2, List.take_append, h1, List.take_of_length_le (by rw [h1, Nat.add_mul]; omega)]
      congr 2
      rw [Nat.add_mul]; omega
theorem flat_drop {es : List D} {z : Nat} (hw : ∀ d ∈ es, d.width = z) (q : Nat) : (flat es).drop (q * z) = flat (es.drop q) := by
  induction es generalizing q with
  | nil => simp [flat]
  | cons d es ih =>
    cases q with
    | zero => simp
    | succ q =>
      have h1 : d.cells.length = z := hw d (by simp)
      have h2 := ih (fun x hx => hw x (by simp [hx])) q
      have e1 : flat (d :: es) = d.cells ++ flat es := by simp [flat]
      rw [e1, List.drop_succ_cons, ← h2, List.drop_append, h1, List.drop_of_length_le (by rw [h1, Nat.add_mul]; omega), List.nil_append]
      congr 1
      rw [Nat.add_mul]; omega
theorem srcOk_own {k c : Nat} {e : TypeId} {es zs : List D} {z : Nat} (hk : S.ob k = some (ownOb e es zs c)) (hc : es.length ≤ c) (hw : ∀ d ∈ es, d.width = z) {l n : Nat} (hq : l + n ≤ es.length) {c' : Nat} : SrcOk S z (.win k (l * z) n c') n (flat ((es.drop l).take n)) := by
  refine ⟨rfl, ?_⟩
  rcases Nat.eq_zero_or_pos c with rfl | h
  · have : es = [] := List.eq_nil_of_length_eq_zero (by omega)
    subst this
    have : n = 0 := by simp at hq; omega
    subst this
    exact .inl ⟨rfl, by simp [flat]⟩
  · rw [ownOb_box h] at hk
    have hf := dflat_length hw
    have hle : (l + n) * z ≤ es.length * z := Nat.mul_le_mul_right _ hq
    rw [Nat.add_mul] at hle
    refine .inr ⟨e, _, hk, ?_, ?_⟩
    · rw [List.length_append, hf]; omega
    · rw [List.drop_append_of_le_length (by rw [hf]; omega), List.take_append_of_le_length (by rw [List.length_drop, hf]; omega), flat_drop hw, flat_take fun d hd => hw d (List.mem_of_mem_drop hd)]
theorem srcOk_own0 {k c : Nat} {e : TypeId} {es zs : List D} {z : Nat} (hk : S.ob k = some (ownOb e es zs c)) (hc : es.length ≤ c) (hw : ∀ d ∈ es, d.width = z) {q : Nat} (hq : q ≤ es.length) {c' : Nat} : SrcOk S z (.win k 0 q c') q (flat (es.take q)) := by
  have := srcOk_own hk hc hw (l := 0) (n := q) (by omega) (c' := c')
  rwa [Nat.zero_mul, List.drop_zero] at this
theorem srcOk_ownA {k c : Nat} {e : TypeId} {es zs : List D} {z : Nat} (hk : S.ob k = some (ownOb e es zs c)) (hc : es.length ≤ c) (hw : ∀ d ∈ es, d.width = z) {c' : Nat} : SrcOk S z (.win k 0 es.length c') es.length (flat es) := by
  have := srcOk_own0 hk hc hw (Nat.le_refl _) (c' := c')
  rwa [List.take_of_length_le (Nat.le_refl _)] at this
theorem zeroT_pos {e : TypeId} (h : zeroT P e = true) : 0 < szOf P e ∧ (P.info? e).isSome = true := by
  obtain ⟨i, z, hi, _, _, hp, hs, _⟩ := zeroT_spec h
  exact ⟨by omega, by rw [hi]; rfl⟩
theorem dappend_own {t tx ty e : TypeId} (he : elT P t = some e) (hx : (elT P tx).isSome = true) (hz : zeroT P e = true) (hz2 : zeroOk P e = true) {k c m : Nat} {es es2 zs : List D} {y : D} {K : D → St → Prop} (hk : S.ob k = some (ownOb e es zs c)) (hl : (flat es ++ zs).length = c * szOf P e) (hw1 : ∀ d ∈ es, d.width = szOf P e) (hs : SrcOk S (szOf P e) y m (flat es2)) (hm : m = es2.length)
    (hb : es.length + es2.length ≤ 140737488355328) (hby : (es.length + es2.length) * bytesOf P e ≤ 140737488355328) (hkn : k < S.next)
    (h : ∀ (c' : Nat) (zs' : List D), es.length + es2.length ≤ c' → (flat (es ++ es2) ++ zs').length = c' * szOf P e → K (.win S.next 0 (es.length + es2.length) c') ((S.drop k).add (ownOb e (es ++ es2) zs' c'))) : dappW P t tx ty (.win k 0 es.length c) y S K := by
  subst hm
  obtain ⟨hzp, hi⟩ := zeroT_pos hz
  have hc := ownOb_len hw1 hzp hl
  refine DRun.thaw ?_
  by_cases hroom : es.length + es2.length ≤ c
  · rcases Nat.eq_zero_or_pos c with rfl | hpos
    · have e1 : es = [] := List.eq_nil_of_length_eq_zero (by omega)
      have e2 : es2 = [] := List.eq_nil_of_length_eq_zero (by omega)
      subst e1 e2
      rw [ownOb_nil] at hk
      intro base η w vs hM hr
      simp only [RepL] at hr
      obtain ⟨x1, _, rfl, r1, x2, _, rfl, r2, rfl⟩ := hr
      obtain ⟨us, s1, s2⟩ := srcOk_at hM hs r2
      have hus : us = [] := List.eq_nil_of_length_eq_zero (by rw [s1.len]; simp)
      subst hus
      obtain ⟨i, hi⟩ := Option.isSome_iff_exists.1 hi
      have hsz : szOf P e = i.size := by simp [szOf, hi]
      obtain ⟨A, rfl, _⟩ := r1.win_slice
      have hsrc := s1.src hx
      rw [hsz] at hsrc
      refine ⟨_, S, η, _, w, run_append_nothing w t tx ty e i (elT_spec he) hi A _ _ (Nat.le_refl _) x2 hsrc, ?_, r1, Goes.refl hM⟩
      exact ⟨_, _, thaw_rename hk, h 0 [] (Nat.le_refl _) (by simp [flat])⟩
    · have hk' := hk
      rw [ownOb_box hpos] at hk'
      have hfl := dflat_length hw1
      refine dappend_in he hx hi hk' hs hroom hb (by rw [Nat.zero_add, hl]; exact Nat.mul_le_mul_right _ hroom) rfl ?_
      refine ⟨_, _, thaw_rename (o := .box e (splice (flat es ++ zs) (0 + es.length * szOf P e) (flat es2))) (by simp [St.set]), ?_⟩
      have hsp : splice (flat es ++ zs) (0 + es.length * szOf P e) (flat es2) = flat (es ++ es2) ++ zs.drop (es2.length * szOf P e) := by
        rw [Nat.zero_add, ← hfl, flat_append]
        unfold splice
        rw [List.take_append_of_le_length (Nat.le_refl _), List.take_of_length_le (Nat.le_refl _), List.drop_append, hs.length]
        simp
      have h2 := h c (zs.drop (es2.length * szOf P e)) hroom (by
        rw [← hsp, splice_len, hl]
        rw [Nat.zero_add, hs.length, hl, ← Nat.add_mul]
        exact Nat.mul_le_mul_right _ hroom)
      rw [ownOb_box hpos, ← hsp] at h2
      rw [St.set_drop]
      exact h2
  · refine dappend_new he hx hz hz2 (srcOk_ownA hk hc hw1) (fun _ _ _ _ e => by injection e with _ _ _ e; exact e.symm) (fun _ _ e => by cases e) hs (by omega) hb hby fun c' zs hc' hl' => ?_
    refine ⟨_, _, thaw_drop k _, ?_⟩
    rw [St.add_drop S _ hkn]
    have := h c' zs hc' (by rw [flat_append]; exact hl')
    rw [ownOb_box (by omega), flat_append] at this
    exact this
theorem dappend_fresh {t tx ty e : TypeId} (he : elT P t = some e) (hx : (elT P tx).isSome = true) (hz : zeroT P e = true) (hz2 : zeroOk P e = true) {m : Nat} {es2 : List D} {y : D} {K : D → St → Prop} (hs : SrcOk S (szOf P e) y m (flat es2)) (hm : m = es2.length)
    (hb : es2.length ≤ 140737488355328) (hby : es2.length * bytesOf P e ≤ 140737488355328)
    (h : ∀ (c' : Nat) (zs' : List D), es2.length ≤ c' → (flat es2 ++ zs').length = c' * szOf P e → K (.win S.next 0 es2.length c') (S.add (ownOb e es2 zs' c'))) : dappW P t tx ty (.sl .full []) y S K := by
  subst hm
  obtain ⟨hzp, hi⟩ := zeroT_pos hz
  rcases Nat.eq_zero_or_pos es2.length with h0 | hpos
  · have e2 : es2 = [] := List.eq_nil_of_length_eq_zero h0
    subst e2
    refine DRun.thaw ?_
    intro base η w vs hM hr
    simp only [RepL] at hr
    obtain ⟨x1, _, rfl, r1, x2, _, rfl, r2, rfl⟩ := hr
    obtain ⟨us, s1, s2⟩ := srcOk_at hM hs r2
    have hus : us = [] := List.eq_nil_of_length_eq_zero (by rw [s1.len]; simp)
    subst hus
    obtain ⟨i, hi⟩ := Option.isSome_iff_exists.1 hi
    have hsz : szOf P e = i.size := by simp [szOf, hi]
    have hsrc := s1.src hx
    rw [hsz] at hsrc
    have r1' := r1
    simp only [Rep, OwnAt] at r1'
    obtain ⟨A, c, rfl, _, _, rfl, _⟩ := r1'
    refine ⟨_, S, η, _, w, run_append_nothing w t tx ty e i (elT_spec he) hi A _ _ (Nat.le_refl _) x2 hsrc, ?_, r1, Goes.refl hM⟩
    exact ⟨_, _, thaw_nil e, h 0 [] (Nat.le_refl _) (by simp [flat])⟩
  · refine dappend_new he hx hz hz2 (n := 0) (c := 0) (olds := []) ⟨(fun _ hx => by cases hx), rfl, rfl⟩ (fun _ _ _ _ e => by cases e) (fun _ _ e => by injection e with e1 e2; subst e1 e2; exact ⟨rfl, rfl⟩) hs (by omega) (by omega) (by rw [Nat.zero_add]; exact hby) fun c' zs hc' hl' => ?_
    simp only [List.nil_append, Nat.zero_add] at hc' hl' ⊢
    have := h c' zs hc' hl'
    rw [ownOb_box (by omega)] at this
    exact this
end
end Go.Proofs.Ytgadflonnnkjcaa

namespace Go.Proofs.Ytgadflonnnkjcaa
open Go.RowKit

section
variable {P : Program} {base : Nat} {S : St} {η : Names} {w : World}
theorem run_append_zeros (w : World) (t tx ty e : TypeId) (i : TypeInfo) (z : Value) (kk : IntKind) (ht : P.underlying t = some (.slice e)) (hi : P.info? e = some i) (hz : i.zero = some z) (hx : P.underlying tx = some (.int kk)) (base : Option Addr) (sLen sCap : Nat) (olds : List Value)
    (hold : (Builtin.firstCells i.size sLen (.slice base sLen sCap)).run P w.drew = .ok olds.toArray w.drew) (m : Nat) (k : IntKind)
    (hg : sCap < sLen + m) (h63 : ((sLen + m : Nat) : Int) ≤ 9223372036854775807) (hfit : Builtin.nextslicecap (sLen + m) sCap * i.bytes ≤ 281474976710656) (hm : m * i.bytes ≤ 281474976710656) (hm0 : m * i.size ≠ 0) :
    (Builtin.append_ #[t, tx] ty #[.slice base sLen sCap, .int k m]).run P w =
      .ok (.slice (some ⟨w.heap.size, 0, none⟩) (sLen + m) (grownCap w (sLen + m) sCap e))
        (w.drew.alloc (.cells (olds.toArray ++ Builtin.zeroCells z.cells m ++ Builtin.zeroCells z.cells (grownCap w (sLen + m) sCap e - (sLen + m))) e)) := by
  have hn : ¬ (sLen + m ≤ sCap) := by omega
  have h63' : ¬ (9223372036854775807 < ((sLen : Int) + (m : Int))) := by omega
  have h48' : ¬ (281474976710656 < Builtin.nextslicecap (sLen + m) sCap * i.bytes) := by omega
  have hw : IntKind.i64.wrap (m : Int) = m := (by rw [IntKind.wrap_i64]; omega)
  have h0 : ¬ ((m : Int) < 0) := by omega
  have h1 : ¬ (281474976710656 < (m : Int) * (i.bytes : Int)) := by
    have : (m : Int) * (i.bytes : Int) = ((m * i.bytes : Nat) : Int) := by simp
    omega
  simp [Builtin.append_, run_underlying ht, run_underlying hx, sizeOf, typeInfo, zeroValue, hi, hz, asInt, asIntOf, hw, h0, h1, hn, h63', h48', Question.forced, hold, newRow, grownCap]
  intro h
  exact absurd h hm0
theorem dappend_zeros {t tx ty e : TypeId} {kk : IntKind} (he : elT P t = some e) (hx : P.underlying tx = some (.int kk)) (hz : zeroT P e = true) (hz2 : zeroOk P e = true) {n c m : Nat} {k off : Nat} {olds : List D} {ik : IntKind} {K : D → St → Prop} (ho : SrcOk S (szOf P e) (.win k off n c) n olds)
    (hgrow : c < n + m) (hnc : n ≤ c) (hb : n + m ≤ 140737488355328) (hby : (n + m) * bytesOf P e ≤ 140737488355328)
    (h : ∀ (c' : Nat) (zs : List D), n + m ≤ c' → (olds ++ zs).length = c' * szOf P e → K (.win S.next 0 (n + m) c') (S.add (.box e (olds ++ zs)))) : dappW P t tx ty (.win k off n c) (.v (.int ik m)) S K := by
  intro base η w vs hM hr
  simp only [RepL] at hr
  obtain ⟨x1, _, rfl, r1, x2, _, rfl, r2, rfl⟩ := hr
  simp only [Rep] at r2
  subst r2
  obtain ⟨os, o1, o2⟩ := srcOk_at hM ho r1
  obtain ⟨i, z, hi, hzr, hzs, hpos, hsz, hbz⟩ := zeroT_spec hz
  obtain ⟨z2, i2, hi2, hz2r, _, hz1, _⟩ := zeroOk_spec hz2
  rw [hi] at hi2
  injection hi2 with hi2
  subst hi2
  rw [hzr] at hz2r
  injection hz2r with hz2r
  subst hz2r
  have hu := elT_spec he
  obtain ⟨A, e1, _⟩ := r1.win_slice
  subst e1
  have hso := o1.src (tx := t) (by rw [he]; rfl)
  rw [hsz] at hso
  have hcold := hso.cellsD
  have hmb : m * i.bytes ≤ 281474976710656 := by
    have : m * i.bytes ≤ (n + m) * i.bytes := Nat.mul_le_mul_right _ (Nat.le_add_left _ _)
    rw [hbz] at hby
    omega
  have hrun := run_append_zeros (P := P) w t tx ty e i z kk hu hi hzr hx A n c os hcold m ik hgrow (by omega) (growslice_fits hgrow (by rw [← hbz]; exact hby)) hmb (by
    have : 1 * 1 ≤ m * i.size := Nat.mul_le_mul (by omega) (by omega)
    omega)
  have G1 := goes_drew hM
  have hge := grownCap_ge w (n + m) c e
  have G3 := G1.trans (goes_name G1.mem (.box e (olds ++ ((Builtin.zeroCells z.cells m).toList ++ (Builtin.zeroCells z.cells (grownCap w (n + m) c e - (n + m))).toList).map ofV)) (os.toArray ++ Builtin.zeroCells z.cells m ++ Builtin.zeroCells z.cells (grownCap w (n + m) c e - (n + m))) e
    (.inl ⟨_, os ++ ((Builtin.zeroCells z.cells m).toList ++ (Builtin.zeroCells z.cells (grownCap w (n + m) c e - (n + m))).toList), rfl, by apply Array.ext'; simp, RepL.append (G1.repL o2) (zeroD_rep _), fun u hu' => (List.mem_append.1 hu').elim (o1.one u) fun hh => (List.mem_append.1 hh).elim (fun hh => hz1 u (zeroCells_mem hh)) fun hh => hz1 u (zeroCells_mem hh)⟩))
  refine ⟨_, _, _, _, _, hrun, h _ _ hge ?_, ?_, G3⟩
  · have e1 := size_zeroCells z.cells (grownCap w (n + m) c e - (n + m))
    have e2 := size_zeroCells z.cells m
    rw [← Array.length_toList] at e1 e2
    rw [List.length_append, List.length_map, List.length_append, ho.length, e1, e2, hzs, hsz, ← Nat.add_mul, ← Nat.add_mul]
    congr 1
    omega
  · simp only [Rep]
    exact .inl ⟨w.heap.size, by simp only [Names.add, ↓reduceIte]; rfl, rfl, hge, hb⟩
theorem dclear_win {t ty e : TypeId} (he : elT P t = some e) (hz : zeroT P e = true) (hz2 : zeroOk P e = true) {k off n c : Nat} {bt : TypeId} {cs : List D} {K : D → St → Prop} (hk : S.ob k = some (.box bt cs)) (hfit : off + n * szOf P e ≤ cs.length)
    (h : ∀ zs : List D, zs.length = n * szOf P e → K (.tup []) (S.set k (.box bt (splice cs off zs)))) : dclear P #[t] ty (.win k off n c) S K := by
  intro base η w vs hM hr
  simp only [RepL] at hr
  obtain ⟨x1, _, rfl, r1, rfl⟩ := hr
  obtain ⟨b, bs, rfl, hb, g1, g2, g3, g4, g5⟩ := win_live hM hk r1
  obtain ⟨i, z, hi, hzr, hzs, hpos, hsz, hbz⟩ := zeroT_spec hz
  obtain ⟨z2, i2, hi2, hz2r, _, hz1, _⟩ := zeroOk_spec hz2
  rw [hi] at hi2
  injection hi2 with hi2
  subst hi2
  rw [hzr] at hz2r
  injection hz2r with hz2r
  subst hz2r
  have hu := elT_spec he
  have hl := g2.length
  have e1 := size_zeroCells z.cells n
  rw [← Array.length_toList, hzs, ← hsz] at e1
  have h1 : ∀ u ∈ (Builtin.zeroCells z.cells n).toList, u.oneCell' = true := fun u hu => hz1 u (zeroCells_mem hu)
  have hst := run_storeCells_at P b off bt (Builtin.zeroCells z.cells n).toList 0 bs.toArray w g1 (by rw [Nat.add_zero, e1, List.size_toArray, hl]; exact hfit) h1
  simp only [Nat.add_zero] at hst
  have hml : ((Builtin.zeroCells z.cells n).toList.map ofV).length = n * szOf P e := by rw [List.length_map, e1]
  have G := goes_set hM hk hb (splice_len (off := off) (ds := (Builtin.zeroCells z.cells n).toList.map ofV) (by rw [hml]; exact hfit)) (splice_rep g2 (zeroD_rep _)) (one_splice g3 h1)
  refine ⟨_, _, η, .tuple #[], _, ?_, h _ hml, by simp only [Rep, RepL]; exact ⟨[], rfl, rfl⟩, G⟩
  cases n with
  | zero =>
    have : Builtin.zeroCells z.cells 0 = #[] := by simp [Builtin.zeroCells]
    simp only [this, List.append_nil, List.length_nil, Nat.add_zero, List.take_append_drop]
    have e0 : w.setRow b bs.toArray = w := setRow_self w b bs.toArray bt (0, 0) g1
    simp [Builtin.clear_, run_underlying hu, e0]
  | succ n => simp [Builtin.clear_, run_underlying hu, zeroValue, typeInfo, hi, hzr, hst]
theorem doverlaps {g : FuncId} {fn : Func} {t e : TypeId} {tr : TypeId} (hf : P.funcs[g]? = some fn) (hname : (fn.name == "runtime.NumGoroutine") = false) (hb : fn.body.isNone = true) (hn : Extern.findNext fn = none) (hx : Extern.find fn = some (Extern.SlicesOverlaps.overlaps #[t, t] #[tr]))
    (he : elT P t = some e) (hi : (P.info? e).isSome = true) {o : Own} {es : List D} {k off n c : Nat} {bt : TypeId} {cs : List D} (hk : S.ob k = some (.box bt cs)) (hcs : cs ≠ []) {K : D → St → Prop} (h : K (.v (.bool false)) S) : DCalls P g [.sl o es, .win k off n c] S K := by
  intro base η w vs hM hr
  simp only [RepL] at hr
  obtain ⟨x1, _, rfl, r1, x2, _, rfl, r2, rfl⟩ := hr
  obtain ⟨b, bs, rfl, hbb, g1, g2, g3, g4, g5⟩ := win_live hM hk r2
  obtain ⟨i, hi⟩ := Option.isSome_iff_exists.1 hi
  have hu := elT_spec he
  refine .inr ⟨.v (.bool false), S, η, .bool false, w, ?_, h, by simp only [Rep], Goes.refl hM⟩
  rw [run_callFunc_extern hf hname hb hn hx]
  simp only [Rep] at r1
  obtain ⟨A, cap, rfl, h2, h3, h4, h5⟩ := r1
  have hshb : w.shape? b = some (bt, bs.length) := by simp [World.shape?, g1]
  have hbl : bs.length ≠ 0 := by rw [g2.length]; exact fun h => hcs (List.eq_nil_of_length_eq_zero h)
  have hfb : ∀ x, w.frozen? ⟨b, x, none⟩ = false := fun x => by simp [World.frozen?, g1]
  have key : ((Extern.SlicesOverlaps.overlaps #[t, t] #[tr] #[.slice A es.length cap, .slice (some ⟨b, off, none⟩) n c]).run P w) = .ok (.bool false) w := by
    change Sem.run P (α := Value) (do
      let some t := (#[t, t] : Array TypeId)[0]? | stuck "slices.overlaps: no parameter types"
      let .slice elem ← underlying t | stuck "slices.overlaps: slice type expected"
      let size ← sizeOf elem
      match A, (some ⟨b, off, none⟩ : Option Addr) with
      | some a, some b =>
        if es.length = 0 ∨ n = 0 ∨ size = 0 then pure (Value.bool false)
        else if a.block != b.block && (← frozen a) && (← frozen b) then unsupported .addressObserved
        else do
          if a.block != b.block then do
            noView a; noView b
            if ← mayBeOne a b then return Value.bool ((← choose (.extern "sameAddr.stringBytes" 2)) == 1)
          pure (Value.bool (a.block == b.block && a.off < b.off + n * size && b.off < a.off + es.length * size))
      | _, _ => pure (Value.bool false)) w = _
    rcases Nat.eq_zero_or_pos es.length with h0 | h0
    · cases A with
      | none => simp [run_underlying hu, sizeOf, typeInfo, hi]
      | some a => simp [run_underlying hu, sizeOf, typeInfo, hi, h0]
    · obtain ⟨b', o', z, rfl, hz, hE⟩ := h5 h0
      obtain ⟨d, hd⟩ : ∃ d, es[0]? = some d := ⟨_, List.getElem?_eq_getElem h0⟩
      have hel := (RepE.get 0 hE hd).cells
      simp only [Nat.zero_mul, Nat.add_zero] at hel
      have hcell : Fix P S η b' o' ∧ ∃ x, w.cell? ⟨b', o', none⟩ = some x := by
        cases hdc : d.cells with
        | nil => exfalso; have := hel.1; rw [D.width, hdc] at this; simp at this; omega
        | cons y l =>
          have := hel.2
          rw [hdc] at this
          simp only [RepC] at this
          exact ⟨this.1.1, _, this.1.2.choose_spec.1⟩
      obtain ⟨hfix, x, hx⟩ := hcell
      have hne : b' ≠ b := fun e => by subst e; exact hfix k _ hbb hk
      have hsh : ∃ te kA, w.shape? b' = some (te, kA + 1) := by
        unfold World.cell? at hx
        unfold World.shape?
        simp only at hx ⊢
        split at hx
        · rename_i cc tt ff hh
          have : o' < cc.size := by
            simp only [Option.isSome_none, Bool.false_eq_true, if_false] at hx
            exact (Array.getElem?_eq_some_iff.1 hx).1
          exact ⟨tt, cc.size - 1, by congr 2; omega⟩
        · cases hx
      obtain ⟨te, kA, hsh⟩ := hsh
      have hnb : (b' != b) = true := by simpa using hne
      have hnb' : (b' == b) = false := by simpa using hne
      by_cases h0' : n = 0 ∨ i.size = 0
      · have : es.length = 0 ∨ n = 0 ∨ i.size = 0 := .inr h0'
        simp [run_underlying hu, sizeOf, typeInfo, hi]
        intro _ a1 a2
        exact absurd h0' (by simp [a1, a2])
      · have h00 : ¬ (es.length = 0 ∨ n = 0 ∨ i.size = 0) := by omega
        cases hz1 : w.frozen? ⟨b', o', none⟩ <;> cases hz2 : w.frozen? ⟨b', kA + 1, none⟩ <;>
          simp [run_underlying hu, sizeOf, typeInfo, hi, hnb, hnb', frozen, noView, viewAt, mayBeOne, stringish, shape, Sem.run, hsh, hshb, hfb, hz1, hz2, hbl]
  show ((Extern.SlicesOverlaps.overlaps #[t, t] #[tr] #[.slice A es.length cap, .slice (some ⟨b, off, none⟩) n c]).run P w).andThen _ = _
  rw [key]
  rfl
theorem splice_at {B C X : List D} {o : Nat} (ho : o = B.length) : splice (B ++ C) o X = B ++ X ++ C.drop X.length := by
  subst ho
  unfold splice
  rw [List.take_append_of_le_length (Nat.le_refl _), List.take_of_length_le (Nat.le_refl _), List.drop_append, List.drop_of_length_le (by omega), List.nil_append]
  congr 2
  omega
theorem ins_old {B C X zs : List D} {o o' : Nat} (ho : o = B.length) (ho' : o' = B.length + X.length) (hl : X.length ≤ zs.length) : splice (splice (B ++ C ++ zs) o' C) o X = B ++ X ++ C ++ zs.drop X.length := by
  have e : B ++ C ++ zs = (B ++ C ++ zs).take (B.length + X.length) ++ (B ++ C ++ zs).drop (B.length + X.length) := (List.take_append_drop _ _).symm
  have hl1 : ((B ++ C ++ zs).take (B.length + X.length)).length = B.length + X.length := by rw [List.length_take]; simp; omega
  have h1 : splice (B ++ C ++ zs) o' C = (B ++ C ++ zs).take (B.length + X.length) ++ C ++ zs.drop X.length := by
    rw [e, splice_at (ho'.trans hl1.symm), ← e, List.drop_drop, List.drop_append (l₁ := B ++ C), List.drop_of_length_le (by simp only [List.length_append]; omega), List.nil_append]
    congr 2
    simp only [List.length_append]
    omega
  rw [h1]
  have e2 : (B ++ C ++ zs).take (B.length + X.length) = B ++ (C ++ zs).take X.length := by
    rw [List.append_assoc, List.take_append, List.take_of_length_le (by omega)]
    congr 2
    omega
  have hl2 : ((C ++ zs).take X.length).length = X.length := by rw [List.length_take]; simp; omega
  rw [e2, List.append_assoc, List.append_assoc, splice_at ho]
  rw [List.drop_append, List.drop_of_length_le (by omega), List.nil_append, hl2, Nat.sub_self, List.drop_zero]
  try simp
def OwnD (P : Program) (S : St) (e : TypeId) (es : List D) (d : D) : Prop := (es = [] ∧ d = .sl .full []) ∨ ∃ k c zs, d = .win k 0 es.length c ∧ S.ob k = some (ownOb e es zs c) ∧ (flat es ++ zs).length = c * szOf P e ∧ k < S.next
def St.left (S : St) : D → St
  | .win k _ _ _ => S.drop k
  | _ => S
theorem dapp_ownD {t tx ty e : TypeId} (he : elT P t = some e) (hx : (elT P tx).isSome = true) (hz : zeroT P e = true) (hz2 : zeroOk P e = true) {d : D} {es es2 : List D} {o2 : Own} {K : D → St → Prop} (hd : OwnD P S e es d) (hw1 : ∀ d ∈ es, d.width = szOf P e) (hw2 : ∀ d ∈ es2, d.width = szOf P e)
    (hb : es.length + es2.length ≤ 140737488355328) (hby : (es.length + es2.length) * bytesOf P e ≤ 140737488355328)
    (h : ∀ (c' : Nat) (zs' : List D), (flat (es ++ es2) ++ zs').length = c' * szOf P e → K (.win S.next 0 (es.length + es2.length) c') ((S.left d).add (ownOb e (es ++ es2) zs' c'))) : dapp P S t tx ty d (.sl o2 es2) K := by
  rcases hd with ⟨rfl, rfl⟩ | ⟨k, c, zs, rfl, hk, hl, hkn⟩
  · refine dapp_nil he (dappend_fresh he hx hz hz2 (srcOk_sl hw2) rfl (by simpa using hb) (by simpa using hby) fun c' zs' _ h2 => ?_)
    have := h c' zs' (by simpa using h2)
    simpa [St.left] using this
  · rw [dapp_atw]
    exact dappend_own he hx hz hz2 hk hl hw1 (srcOk_sl hw2) rfl hb hby hkn fun c' zs' _ h2 => h c' zs' h2
theorem OwnD.sub {S0 T : St} (hS : S0.WF) (hs : S0.Sub T) {e : TypeId} {es : List D} {d : D} (hd : OwnD P T e es d) (hlo : ∀ k o n c, d = .win k o n c → S0.next ≤ k) : S0.Sub (T.left d) := by
  rcases hd with ⟨_, rfl⟩ | ⟨k, c, zs, rfl, _⟩
  · exact hs
  · exact ⟨hs.next, fun j o hj => by
      have h1 := hS.lt hj
      have h2 := hlo _ _ _ _ rfl
      show (if j = k then none else T.ob j) = some o
      rw [if_neg (by omega)]
      exact hs.ob j o hj⟩
theorem left_next (T : St) (d : D) : (T.left d).next = T.next := by cases d <;> rfl
theorem OwnD.win {e : TypeId} {es : List D} {d : D} (hd : OwnD P S e es d) : ∃ S1 k c zs, Thaw P S d S1 (.win k 0 es.length c) ∧ (S1 = S ∨ S1 = S.add (.row e 0)) ∧ S1.ob k = some (ownOb e es zs c) ∧ (flat es ++ zs).length = c * szOf P e ∧ k < S1.next ∧ ((∃ o n c', d = .win k o n c') ∨ k = S.next) := by
  rcases hd with ⟨rfl, rfl⟩ | ⟨k, c, zs, rfl, h1, h2, h3⟩
  · exact ⟨_, S.next, 0, [], thaw_nil e, .inr rfl, by simp [St.add, ownOb_nil], by simp [flat], by simp [St.add], .inr rfl⟩
  · exact ⟨S, k, c, zs, Thaw.refl _ _ _, .inl rfl, h1, h2, h3, .inl ⟨_, _, _, rfl⟩⟩
end
end Go.Proofs.Ytgadflonnnkjcaa
