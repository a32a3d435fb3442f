/- Texts of a proof, part 3. Conditions: none. -/
import Derived.Test.YtbcabejdchkpmaaDoorR2
import Derived.Test.YtbcabejdchkpmaaDoorProg
import Derived.KernelRfl
import Derived.Test.YtbcabejdchkpmaaDoorRows
import Derived.ChangeSame
import Derived.ChangeVars
import Derived.JoinedOf
import Derived.LaidLaws
import Derived.LaidHandle
import Derived.Stop.Joined
import Derived.LaidEql
import Derived.Stop.Asserts
import Derived.RowKitTokens
set_option linter.unusedVariables false
set_option linter.unusedSimpArgs false
namespace Go.Proofs.YtbcabejdchkpmaaDoor
open Go.RowKit

theorem put_eq (f : Fm) (t : Tmp) (d : D) : put f (some t) d t = d := by simp [put]
theorem put_ne (f : Fm) (t : Tmp) (d : D) (i : Nat) (h : (i == t) = false) : put f (some t) d i = f i := by
  have : Nat.beq i t = false := by
    cases hb : Nat.beq i t with
    | false => rfl
    | true => rw [Nat.eq_of_beq_eq_true hb] at h; simp at h
  simp [put, this]
theorem put_none (f : Fm) (d : D) : put f none d = f := Eq.trans (Eq.refl _) (Eq.refl _)
theorem argF_nil (t : Nat) : argF [] t = undefD := Eq.trans (Eq.refl _) (Eq.refl _)
theorem argF_zero (d : D) (l : List D) : argF (d :: l) 0 = d := Eq.trans (Eq.refl _) (Eq.refl _)
theorem argF_succ (d : D) (l : List D) (t : Nat) : argF (d :: l) (t + 1) = argF l t := Eq.trans (Eq.refl _) (Eq.refl _)
section
variable {P : Program} {x y : Operand} {t : TypeId}
theorem pureRun_bind {α β : Type} (s : Sem α) (g : α → Sem β) : pureRun P (s >>= g) = (pureRun P s).bind fun a => pureRun P (g a) := by
  show pureRun P (Sem.bind s g) = _
  induction s with
  | pure a => rfl
  | program k ih => simp only [Sem.bind, pureRun]; exact ih _
  | mark m k ih => simp only [Sem.bind, pureRun]; exact ih
  | _ => rfl
theorem pureRun_pure {α : Type} (a : α) : pureRun P (pure a : Sem α) = some a := Eq.trans (Eq.refl _) (Eq.refl _)
theorem ofV_int (k : IntKind) (n : Int) : ofV (.int k n) = .v (.int k n) := Eq.trans (Eq.refl _) (Eq.refl _)
theorem ofV_bool (b : Bool) : ofV (.bool b) = .v (.bool b) := Eq.trans (Eq.refl _) (Eq.refl _)
theorem ofV_string (s : ByteArray) : ofV (.string s) = .v (.string s) := Eq.trans (Eq.refl _) (Eq.refl _)
theorem ofV_nil : ofV (.slice none 0 0) = .sl .full [] := Eq.trans (Eq.refl _) (Eq.refl _)
theorem ofV_iface : ofV .nilIface = .v .nilIface := Eq.trans (Eq.refl _) (Eq.refl _)
theorem ofV_func : ofV .nilFunc = .v .nilFunc := Eq.trans (Eq.refl _) (Eq.refl _)
theorem ofV_ptr (a : Option Addr) : ofV (.pointer a) = .v (.pointer a) := Eq.trans (Eq.refl _) (Eq.refl _)
/-! Operations on plain values. -/
theorem bin_add (k : IntKind) (a b : Int) : dbin P .add t x y (.v (.int k a)) (.v (.int k b)) = some (True, .v (.int k (k.wrap (a + b)))) := by
  simp [dbin, eqGuard, binOp, Op.intArith, pureRun_bind, pureRun_pure]
theorem bin_sub (k : IntKind) (a b : Int) : dbin P .sub t x y (.v (.int k a)) (.v (.int k b)) = some (True, .v (.int k (k.wrap (a - b)))) := by
  simp [dbin, eqGuard, binOp, Op.intArith, pureRun_bind, pureRun_pure]
theorem bin_mul (k : IntKind) (a b : Int) : dbin P .mul t x y (.v (.int k a)) (.v (.int k b)) = some (True, .v (.int k (k.wrap (a * b)))) := by
  simp [dbin, eqGuard, binOp, Op.intArith, pureRun_bind, pureRun_pure]
theorem bin_eql (k : IntKind) (a b : Int) : dbin P .eql t x y (.v (.int k a)) (.v (.int k b)) = some (True, .v (.bool (a == b))) := by
  simp [dbin, eqGuard, binOp, Op.intCmp, pureRun_bind, pureRun_pure]
theorem bin_neq (k : IntKind) (a b : Int) : dbin P .neq t x y (.v (.int k a)) (.v (.int k b)) = some (True, .v (.bool (a != b))) := by
  simp [dbin, eqGuard, binOp, Op.intCmp, pureRun_bind, pureRun_pure]
theorem bin_lss (k : IntKind) (a b : Int) : dbin P .lss t x y (.v (.int k a)) (.v (.int k b)) = some (True, .v (.bool (decide (a < b)))) := by
  simp [dbin, eqGuard, binOp, Op.intCmp, pureRun_bind, pureRun_pure]
theorem bin_leq (k : IntKind) (a b : Int) : dbin P .leq t x y (.v (.int k a)) (.v (.int k b)) = some (True, .v (.bool (decide (a ≤ b)))) := by
  simp [dbin, eqGuard, binOp, Op.intCmp, pureRun_bind, pureRun_pure]
theorem bin_gtr (k : IntKind) (a b : Int) : dbin P .gtr t x y (.v (.int k a)) (.v (.int k b)) = some (True, .v (.bool (decide (b < a)))) := by
  simp [dbin, eqGuard, binOp, Op.intCmp, pureRun_bind, pureRun_pure]
theorem bin_geq (k : IntKind) (a b : Int) : dbin P .geq t x y (.v (.int k a)) (.v (.int k b)) = some (True, .v (.bool (decide (b ≤ a)))) := by
  simp [dbin, eqGuard, binOp, Op.intCmp, pureRun_bind, pureRun_pure]
theorem bin_leql (k off : Nat) : dbin P .eql t x y (.loc k off) (.v (.pointer none)) = some (ptrT P t = true, .v (.bool false)) := Eq.trans (Eq.refl _) (Eq.refl _)
theorem bin_lneq (k off : Nat) : dbin P .neq t x y (.loc k off) (.v (.pointer none)) = some (ptrT P t = true, .v (.bool true)) := Eq.trans (Eq.refl _) (Eq.refl _)
theorem bin_ieql (u : TypeId) (d : D) : dbin P .eql t x y (.ifc u d) (.v .nilIface) = some (ifaceT P t = true, .v (.bool false)) := Eq.trans (Eq.refl _) (Eq.refl _)
theorem bin_ineq (u : TypeId) (d : D) : dbin P .neq t x y (.ifc u d) (.v .nilIface) = some (ifaceT P t = true, .v (.bool true)) := Eq.trans (Eq.refl _) (Eq.refl _)
theorem bin_ifc (t1 t2 : TypeId) (a b : D) : dbin P .eql t x y (.ifc t1 a) (.ifc t2 b) = some (IfcEq P t x y t1 a t2 b, .v (.bool (ifcB t1 a t2 b))) := Eq.trans (Eq.refl _) (Eq.refl _)
theorem bin_seql (a b : ByteArray) : dbin P .eql t x y (.v (.string a)) (.v (.string b)) = some (True, .v (.bool (a.toList == b.toList))) := by
  simp [dbin, eqGuard, binOp, Op.stringOp, pureRun_bind, pureRun_pure]
theorem bin_sneq (a b : ByteArray) : dbin P .neq t x y (.v (.string a)) (.v (.string b)) = some (True, .v (.bool (!(a.toList == b.toList)))) := by
  simp [dbin, eqGuard, binOp, Op.stringOp, pureRun_bind, pureRun_pure]
theorem bin_slss (a b : ByteArray) : dbin P .lss t x y (.v (.string a)) (.v (.string b)) = some (True, .v (.bool (Op.bytesLess a.toList b.toList))) := by
  simp [dbin, eqGuard, binOp, Op.stringOp, pureRun_bind, pureRun_pure]
theorem bin_sgtr (a b : ByteArray) : dbin P .gtr t x y (.v (.string a)) (.v (.string b)) = some (True, .v (.bool (!(Op.bytesLess a.toList b.toList || a.toList == b.toList)))) := by
  simp [dbin, eqGuard, binOp, Op.stringOp, pureRun_bind, pureRun_pure]
theorem bin_sleq (a b : ByteArray) : dbin P .leq t x y (.v (.string a)) (.v (.string b)) = some (True, .v (.bool (Op.bytesLess a.toList b.toList || a.toList == b.toList))) := by
  simp [dbin, eqGuard, binOp, Op.stringOp, pureRun_bind, pureRun_pure]
theorem bin_sgeq (a b : ByteArray) : dbin P .geq t x y (.v (.string a)) (.v (.string b)) = some (True, .v (.bool (!Op.bytesLess a.toList b.toList))) := by
  simp [dbin, eqGuard, binOp, Op.stringOp, pureRun_bind, pureRun_pure]
theorem un_not (b : Bool) : pureRun P (Op.unary .not (.bool b)) = some (.bool (!b)) := Eq.trans (Eq.refl _) (Eq.refl _)
theorem un_neg (k : IntKind) (n : Int) : pureRun P (Op.unary .neg (.int k n)) = some (.int k (k.wrap (0 - n))) := Eq.trans (Eq.refl _) (Eq.refl _)
theorem bu_len (own : Own) (es : List D) (t ty : TypeId) (cs : Array Bool) {e : TypeId} (h : elT P t = some e) : dbuiltin P .len #[t] ty cs [.sl own es] = some (True, .v (.int .i64 es.length)) := by
  simp [dbuiltin, vals, dlen, h]
theorem bu_max (k : IntKind) (a b : Int) (ts : Array TypeId) (ty : TypeId) (cs : Array Bool) : dbuiltin P .max ts ty cs [.v (.int k a), .v (.int k b)] = some (True, .v (.int k (if a < b then b else a))) := by
  simp [dbuiltin, vals, builtin, Builtin.max_, Builtin.max2, pureRun_bind, pureRun_pure]
theorem bu_min (k : IntKind) (a b : Int) (ts : Array TypeId) (ty : TypeId) (cs : Array Bool) : dbuiltin P .min ts ty cs [.v (.int k a), .v (.int k b)] = some (True, .v (.int k (if b < a then b else a))) := by
  simp [dbuiltin, vals, builtin, Builtin.min_, Builtin.min2, pureRun_bind, pureRun_pure]
end

theorem globAt_eq : globAt 0 = some (.ifc 122 (.agg [.v (.pointer (some ⟨1, 35, none⟩))])) := rfl
attribute [go_sem] globAt_eq
/-! The walk, step by step; what follows stands behind a name till it is come to. -/
section
variable {P : Program} {Q : DQ} {f : Fm} {S : St}
def dwpF (P : Program) (c : Code) (Q : DQ) (f : Fm) (S : St) : Prop := dwp P c Q f S
def dIf (c : D) (x y : Prop) : Prop := match c with
  | .v (.bool b) => (b = true → x) ∧ (b = false → y)
  | _ => False
theorem dwp_skip : dwp P .skip Q f S = Q .normal f S := Eq.trans (Eq.refl _) (Eq.refl _)
theorem dwp_label (l : Nat) : dwp P (.label l) Q f S = Q .normal f S := Eq.trans (Eq.refl _) (Eq.refl _)
theorem dwp_exit (i : Nat) : dwp P (.exit i) Q f S = Q (.exit i) f S := Eq.trans (Eq.refl _) (Eq.refl _)
theorem dwp_ret : dwp P .ret Q f S = Q .ret f S := Eq.trans (Eq.refl _) (Eq.refl _)
theorem dwp_seq (x y : Code) : dwp P (.seq x y) Q f S = dwp P x (DQ.then (dwp P y Q) Q) f S := Eq.trans (Eq.refl _) (Eq.refl _)
theorem dwp_block (id : Nat) (c : Code) : dwp P (.block id c) Q f S = dwp P c (DQ.block id Q) f S := Eq.trans (Eq.refl _) (Eq.refl _)
theorem dwp_loop (c : Code) : dwp P (.loop c) Q f S = DLoop (dwp P c) Q f S := Eq.trans (Eq.refl _) (Eq.refl _)
theorem dwp_cond (c : Operand) (x y : Code) : dwp P (.cond c x y) Q f S = dIf (ev f c) (dwpF P x Q f S) (dwpF P y Q f S) := by
  unfold dwp dIf dwpF
  rfl
theorem dwp_region (id : Nat) (l : List Oper) : dwp P (.region id (List.toArray l) false) Q f S = dops P (List.toArray l) (Q .normal) l f S := Eq.trans (Eq.refl _) (Eq.refl _)
theorem dwp_draw (id : Nat) (l : List Oper) : dwp P (.region id (List.toArray l) true) Q f S = ddraw P l (Q .normal) f S := Eq.trans (Eq.refl _) (Eq.refl _)
theorem then_normal (k : Fm → St → Prop) : DQ.then k Q .normal f S = k f S := Eq.trans (Eq.refl _) (Eq.refl _)
theorem then_exit (k : Fm → St → Prop) (i : Nat) : DQ.then k Q (.exit i) f S = Q (.exit i) f S := Eq.trans (Eq.refl _) (Eq.refl _)
theorem then_ret (k : Fm → St → Prop) : DQ.then k Q .ret f S = Q .ret f S := Eq.trans (Eq.refl _) (Eq.refl _)
theorem block_normal (id : Nat) : DQ.block id Q .normal f S = Q .normal f S := Eq.trans (Eq.refl _) (Eq.refl _)
theorem block_ret (id : Nat) : DQ.block id Q .ret f S = Q .ret f S := Eq.trans (Eq.refl _) (Eq.refl _)
theorem block_eq (id : Nat) : DQ.block id Q (.exit id) f S = Q .normal f S := by simp [DQ.block]
theorem block_ne (i id : Nat) (h : (i == id) = false) : DQ.block id Q (.exit i) f S = Q (.exit i) f S := by
  have : Nat.beq i id = false := by
    cases hb : Nat.beq i id with
    | false => rfl
    | true => rw [Nat.eq_of_beq_eq_true hb] at h; simp at h
  simp [DQ.block, this]
def dnext (P : Program) (ops : Array Oper) (R : Fm → St → Prop) (r : List Oper) (f : Fm) (dst : Option Tmp) (d : D) (S : St) : Prop := dops P ops R r (put f dst d) S
theorem dnext_eq (ops : Array Oper) (R : Fm → St → Prop) (r : List Oper) (dst : Option Tmp) (d : D) : dnext P ops R r f dst d S = dops P ops R r (put f dst d) S := Eq.trans (Eq.refl _) (Eq.refl _)
def dskip (P : Program) (ops : Array Oper) (R : Fm → St → Prop) (r : List Oper) (f : Fm) (dst : Option Tmp) (S : St) : Prop := dops P ops R r (put f dst undefD) S
def dopF (P : Program) (f : Fm) (S : St) (ty : TypeId) (op : Op) (K : D → St → Prop) : Prop := dop P f S ty op K
def gtmp : List Oper → Nat → Option Tmp
  | [], _ => none
  | o :: _, 0 => o.dst
  | _ :: l, n + 1 => gtmp l n
theorem gtmp_eq : ∀ (l : List Oper) (n : Nat), ((List.toArray l)[n]?).bind (·.dst) = gtmp l n
  | [], n => by simp [gtmp]
  | o :: l, 0 => by simp [gtmp]
  | o :: l, n + 1 => by have := gtmp_eq l n; simpa [gtmp] using this
theorem gtmp_zero (dst : Option Tmp) (op : Op) (ty : TypeId) (pos : String) (after : Array Edge) (g : Option (Nat × Bool)) (l : List Oper) : gtmp (⟨dst, op, ty, pos, after, g⟩ :: l) 0 = dst := Eq.trans (Eq.refl _) (Eq.refl _)
theorem gtmp_succ (o : Oper) (l : List Oper) (n : Nat) : gtmp (o :: l) (n + 1) = gtmp l n := Eq.trans (Eq.refl _) (Eq.refl _)
def dguardT (t : Option Tmp) (f : Fm) (want : Bool) (y n : Prop) : Prop := match t with
  | some t => match f t with
    | .v (.bool b) => (b = want → y) ∧ (b = !want → n)
    | .tup [] => n
    | _ => False
  | none => False
def dguard (x : D) (want : Bool) (y n : Prop) : Prop := match x with
  | .v (.bool b) => (b = want → y) ∧ (b = !want → n)
  | .tup [] => n
  | _ => False
theorem dguardT_some (t : Tmp) (want : Bool) (y n : Prop) : dguardT (some t) f want y n = dguard (f t) want y n := Eq.trans (Eq.refl _) (Eq.refl _)
section
variable {y n : Prop} {ty : TypeId} {op : Op} {K : D → St → Prop} {ops : Array Oper} {R : Fm → St → Prop} {r : List Oper} {dst : Option Tmp}
theorem dg_tt : dguard (.v (.bool true)) true (dopF P f S ty op K) n = dop P f S ty op K := by simp [dguard, dopF]
theorem dg_ff : dguard (.v (.bool false)) false (dopF P f S ty op K) n = dop P f S ty op K := by simp [dguard, dopF]
theorem dg_tf : dguard (.v (.bool true)) false y (dskip P ops R r f dst S) = dops P ops R r (put f dst undefD) S := by simp [dguard, dskip]
theorem dg_ft : dguard (.v (.bool false)) true y (dskip P ops R r f dst S) = dops P ops R r (put f dst undefD) S := by simp [dguard, dskip]
theorem dg_no (want : Bool) : dguard undefD want y (dskip P ops R r f dst S) = dops P ops R r (put f dst undefD) S := Eq.trans (Eq.refl _) (Eq.refl _)
end
theorem dIf_t (x : Code) (Y : Prop) : dIf (.v (.bool true)) (dwpF P x Q f S) Y = dwp P x Q f S := by simp [dIf, dwpF]
theorem dIf_f (y : Code) (X : Prop) : dIf (.v (.bool false)) X (dwpF P y Q f S) = dwp P y Q f S := by simp [dIf, dwpF]
theorem dops_nil (ops : Array Oper) (R : Fm → St → Prop) : dops P ops R [] f S = R f S := Eq.trans (Eq.refl _) (Eq.refl _)
theorem dops_plain (ops : Array Oper) (R : Fm → St → Prop) (r : List Oper) (dst : Option Tmp) (op : Op) (ty : TypeId) (pos : String) (after : Array Edge) : dops P ops R (⟨dst, op, ty, pos, after, none⟩ :: r) f S = dop P f S ty op (dnext P ops R r f dst) := Eq.trans (Eq.refl _) (Eq.refl _)
theorem dops_guard (l : List Oper) (R : Fm → St → Prop) (r : List Oper) (dst : Option Tmp) (op : Op) (ty : TypeId) (pos : String) (after : Array Edge) (j : Nat) (want : Bool) :
    dops P (List.toArray l) R (⟨dst, op, ty, pos, after, some (j, want)⟩ :: r) f S = dguardT (gtmp l j) f want (dopF P f S ty op (dnext P (List.toArray l) R r f dst)) (dskip P (List.toArray l) R r f dst S) := by
  rw [← gtmp_eq]; rfl
def onValS (o : Option (Prop × D)) (K : D → St → Prop) (S : St) : Prop := match o with
  | some (c, d) => c ∧ K d S
  | none => False
theorem onValS_some (c : Prop) (d : D) (K : D → St → Prop) : onValS (some (c, d)) K S = (c ∧ K d S) := Eq.trans (Eq.refl _) (Eq.refl _)
theorem onVal_some (c : Prop) (d : D) (K : D → Prop) : onVal (some (c, d)) K = (c ∧ K d) := Eq.trans (Eq.refl _) (Eq.refl _)
theorem dop_move {ty : TypeId} {K : D → St → Prop} (x : Operand) : dop P f S ty (.move x) K = onValS (dval P f S ty (.move x)) K S := by
  unfold dop; exact Eq.trans (Eq.refl _) (Eq.refl _)
theorem dop_assign {ty : TypeId} {K : D → St → Prop} (x : Operand) : dop P f S ty (.assign x) K = onValS (dval P f S ty (.assign x)) K S := by
  unfold dop; exact Eq.trans (Eq.refl _) (Eq.refl _)
theorem dop_pick {ty : TypeId} {K : D → St → Prop} (c x y : Operand) : dop P f S ty (.pick c x y) K = onValS (dval P f S ty (.pick c x y)) K S := by
  unfold dop; exact Eq.trans (Eq.refl _) (Eq.refl _)
theorem dop_load {ty : TypeId} {K : D → St → Prop} (t : TypeId) (x : Operand) : dop P f S ty (.load t x) K = onValS (dval P f S ty (.load t x)) K S := by
  unfold dop; exact Eq.trans (Eq.refl _) (Eq.refl _)
theorem dop_fieldAddr {ty : TypeId} {K : D → St → Prop} (t : TypeId) (x : Operand) (i : Nat) : dop P f S ty (.fieldAddr t x i) K = onValS (dval P f S ty (.fieldAddr t x i)) K S := by
  unfold dop; exact Eq.trans (Eq.refl _) (Eq.refl _)
theorem dop_field {ty : TypeId} {K : D → St → Prop} (t : TypeId) (x : Operand) (i : Nat) : dop P f S ty (.field t x i) K = onValS (dval P f S ty (.field t x i)) K S := by
  unfold dop; exact Eq.trans (Eq.refl _) (Eq.refl _)
theorem dop_indexAddr {ty : TypeId} {K : D → St → Prop} (t : TypeId) (x i : Operand) : dop P f S ty (.indexAddr t x i) K = onValS (dval P f S ty (.indexAddr t x i)) K S := by
  unfold dop; exact Eq.trans (Eq.refl _) (Eq.refl _)
theorem dop_index {ty : TypeId} {K : D → St → Prop} (t : TypeId) (x i : Operand) : dop P f S ty (.index t x i) K = onValS (dval P f S ty (.index t x i)) K S := by
  unfold dop; exact Eq.trans (Eq.refl _) (Eq.refl _)
theorem dop_extract {ty : TypeId} {K : D → St → Prop} (x : Operand) (i : Nat) : dop P f S ty (.extract x i) K = onValS (dval P f S ty (.extract x i)) K S := by
  unfold dop; exact Eq.trans (Eq.refl _) (Eq.refl _)
theorem dop_makeFunc {ty : TypeId} {K : D → St → Prop} (fn : Fn) (fs cs : Array Operand) : dop P f S ty (.makeFunc fn fs cs) K = onValS (dval P f S ty (.makeFunc fn fs cs)) K S := by
  unfold dop; exact Eq.trans (Eq.refl _) (Eq.refl _)
theorem dop_makeInterface {ty : TypeId} {K : D → St → Prop} (t : TypeId) (x : Operand) : dop P f S ty (.makeInterface t x) K = onValS (dval P f S ty (.makeInterface t x)) K S := by
  unfold dop; exact Eq.trans (Eq.refl _) (Eq.refl _)
theorem dop_nilCheck {ty : TypeId} {K : D → St → Prop} (x : Operand) : dop P f S ty (.nilCheck x) K = onValS (dval P f S ty (.nilCheck x)) K S := by
  unfold dop; exact Eq.trans (Eq.refl _) (Eq.refl _)
theorem dop_slice {ty : TypeId} {K : D → St → Prop} (t : TypeId) (x : Operand) (lo hi mx : Option Operand) : dop P f S ty (.slice t x lo hi mx) K = onValS (dval P f S ty (.slice t x lo hi mx)) K S := by
  unfold dop; exact Eq.trans (Eq.refl _) (Eq.refl _)
theorem dop_binOp {ty : TypeId} {K : D → St → Prop} (op : BinOp) (t : TypeId) (x y : Operand) (u : TypeId) : dop P f S ty (.binOp op t x y u) K = onValS (dval P f S ty (.binOp op t x y u)) K S := by
  unfold dop; exact Eq.trans (Eq.refl _) (Eq.refl _)
theorem dop_unOp {ty : TypeId} {K : D → St → Prop} (op : UnOp) (t : TypeId) (x : Operand) : dop P f S ty (.unOp op t x) K = onValS (dval P f S ty (.unOp op t x)) K S := by
  unfold dop; exact Eq.trans (Eq.refl _) (Eq.refl _)
theorem dop_convert {ty : TypeId} {K : D → St → Prop} (s t : TypeId) (x : Operand) : dop P f S ty (.convert s t x) K = onValS (orD (dnew P f S (.convert s t x)) (dval P f S ty (.convert s t x))) K S := by
  unfold dop; exact Eq.trans (Eq.refl _) (Eq.refl _)
theorem dop_b_len {ty : TypeId} {K : D → St → Prop} (args : Array Operand) (ts : Array TypeId) : dop P f S ty (.call ⟨.builtin .len, args, ts⟩) K = onValS (dval P f S ty (.call ⟨.builtin .len, args, ts⟩)) K S := by
  unfold dop; exact Eq.trans (Eq.refl _) (Eq.refl _)
theorem dop_b_cap {ty : TypeId} {K : D → St → Prop} (args : Array Operand) (ts : Array TypeId) : dop P f S ty (.call ⟨.builtin .cap, args, ts⟩) K = onValS (dval P f S ty (.call ⟨.builtin .cap, args, ts⟩)) K S := by
  unfold dop; exact Eq.trans (Eq.refl _) (Eq.refl _)
theorem dop_b_min {ty : TypeId} {K : D → St → Prop} (args : Array Operand) (ts : Array TypeId) : dop P f S ty (.call ⟨.builtin .min, args, ts⟩) K = onValS (dval P f S ty (.call ⟨.builtin .min, args, ts⟩)) K S := by
  unfold dop; exact Eq.trans (Eq.refl _) (Eq.refl _)
theorem dop_b_max {ty : TypeId} {K : D → St → Prop} (args : Array Operand) (ts : Array TypeId) : dop P f S ty (.call ⟨.builtin .max, args, ts⟩) K = onValS (dval P f S ty (.call ⟨.builtin .max, args, ts⟩)) K S := by
  unfold dop; exact Eq.trans (Eq.refl _) (Eq.refl _)
theorem dop_buildSlice {ty : TypeId} {K : D → St → Prop} (t : TypeId) (n : Nat) (ps : Array (Nat × Operand)) : dop P f S ty (.buildSlice t n ps) K = onValS (dnew P f S (.buildSlice t n ps)) K S := by
  unfold dop; exact Eq.trans (Eq.refl _) (Eq.refl _)
theorem dop_build {ty : TypeId} {K : D → St → Prop} (t : TypeId) (ps : Array (Nat × Operand)) : dop P f S ty (.build t ps) K = onValS (dnew P f S (.build t ps)) K S := by
  unfold dop; exact Eq.trans (Eq.refl _) (Eq.refl _)
theorem dop_alloc {ty : TypeId} {K : D → St → Prop} (t : TypeId) : dop P f S ty (.alloc t) K = (zeroOk P t = true ∧ K (.loc S.next 0) (S.add (.box t (zeroD P t)))) := Eq.trans (Eq.refl _) (Eq.refl _)
theorem dop_box {ty : TypeId} {K : D → St → Prop} (t : TypeId) (x : Operand) : dop P f S ty (.box t x) K = ((ev f x).okCell = true ∧ K (.loc S.next 0) (S.add (.box t (ev f x).cells))) := Eq.trans (Eq.refl _) (Eq.refl _)
def dstore (P : Program) (S : St) (t : TypeId) (x y : D) (K : D → St → Prop) : Prop := match x with
  | .loc k off => match S.ob k with
    | some (.box t' cs) => y.okCell = true ∧ (P.info? t).isSome = true ∧ y.width = szOf P t ∧ off + szOf P t ≤ cs.length ∧ K undefD (S.set k (.box t' (splice cs off y.cells)))
    | _ => False
  | _ => False
theorem dop_store {ty : TypeId} {K : D → St → Prop} (t : TypeId) (x y : Operand) : dop P f S ty (.store t x y) K = dstore P S t (ev f x) (ev f y) K := Eq.trans (Eq.refl _) (Eq.refl _)
def dcall (P : Program) (S : St) (x : D) (args : List D) (K : D → St → Prop) : Prop := match x with
  | .fn (.func g) fs cs => DCalls P g (fs ++ args ++ cs) S K
  | _ => False
theorem dcall_fn (g : FuncId) (fs args cs : List D) (K : D → St → Prop) : dcall P S (.fn (.func g) fs cs) args K = DCalls P g (fs ++ args ++ cs) S K := Eq.trans (Eq.refl _) (Eq.refl _)
theorem dop_call {ty : TypeId} {K : D → St → Prop} (x : Operand) (args : List Operand) (ts : Array TypeId) : dop P f S ty (.call ⟨.value x, List.toArray args, ts⟩) K = dcall P S (ev f x) (args.map (ev f)) K := Eq.trans (Eq.refl _) (Eq.refl _)
def dappend (P : Program) (S : St) (t tx : TypeId) (x y : D) (K : D → St → Prop) : Prop := match x, y with
  | .sl own es, .sl _ es2 => match elT P t with
    | some e => (elT P tx).isSome = true ∧ zeroT P e = true ∧ (∀ d ∈ es, d.width = szOf P e) ∧ (∀ d ∈ es2, d.width = szOf P e) ∧ (match own with | .full => True | .row g => S.ob g = some (.row e es.length) | .no => False) ∧ es.length + es2.length ≤ 140737488355328 ∧ (es.length + es2.length) * bytesOf P e ≤ 140737488355328 ∧ K (.sl (.row S.next) (es ++ es2)) (S.grow own e (es.length + es2.length))
    | none => False
  | _, _ => False
def dapp (P : Program) (S : St) (t tx : TypeId) (ty : TypeId) (x y : D) (K : D → St → Prop) : Prop := match x with
  | .win k off n c => DRun P (fun vs => Builtin.append_ #[t, tx] ty vs.toArray) [.win k off n c, y] S K
  | x => dappend P S t tx x y K ∨ match x, y with
    | .sl own es, .sl o2 es2 => match elT P t with
      | some e => appWin P S e tx own es es2 K ∨ DRun P (fun vs => Builtin.append_ #[t, tx] ty vs.toArray) [.sl own es, .sl o2 es2] S K
      | none => False
    | _, _ => False
theorem dapp_row {t tx ty : TypeId} {own : Own} {es : List D} {y : D} {K : D → St → Prop} (h : dappend P S t tx (.sl own es) y K) : dapp P S t tx ty (.sl own es) y K := .inl h
theorem dop_append {ty : TypeId} {K : D → St → Prop} (x y : Operand) (t tx : TypeId) : dop P f S ty (.call ⟨.builtin .append, #[x, y], #[t, tx]⟩) K = dapp P S t tx ty (ev f x) (ev f y) K := by
  simp only [dop, List.map_cons, List.map_nil]
  generalize ev f x = a
  generalize ev f y = b
  cases a <;> first | rfl | (simp only [dapp, dappend]; cases he : elT P t <;> cases b <;> (try simp only [he, or_false, false_or, or_self]) <;> rfl)
def dassert (P : Program) (x : D) (xt t : TypeId) (ok : Bool) (S : St) (K : D → St → Prop) : Prop := DRun P (fun vs => Instr.typeAssert (vs.getD 0 undef) xt t ok) [x] S K
theorem dop_typeAssert {ty : TypeId} {K : D → St → Prop} (x : Operand) (xt t : TypeId) (ok : Bool) : dop P f S ty (.typeAssert x xt t ok) K = dassert P (ev f x) xt t ok S K := Eq.trans (Eq.refl _) (Eq.refl _)
def dinvoke (P : Program) (x : D) (m : String) (args : List D) (S : St) (K : D → St → Prop) : Prop := match x with
  | .ifc t d => ∃ g d', DMeth P t d m g d' ∧ DCalls P g (d' :: args) S K
  | _ => False
theorem dop_invoke {ty : TypeId} {K : D → St → Prop} (r : Operand) (m : String) (args : List Operand) (ts : Array TypeId) : dop P f S ty (.call ⟨.invoke r m, List.toArray args, ts⟩) K = dinvoke P (ev f r) m (args.map (ev f)) S K := Eq.trans (Eq.refl _) (Eq.refl _)
theorem dinvoke_mk {t : TypeId} {d d' : D} {m : String} {g : FuncId} {args : List D} {K : D → St → Prop} (h1 : DMeth P t d m g d') (h2 : DCalls P g (d' :: args) S K) : dinvoke P (.ifc t d) m args S K := ⟨g, d', h1, h2⟩
theorem list_of_array {α : Type} (l : List α) : (List.toArray l).toList = l := Eq.trans (Eq.refl _) (Eq.refl _)
theorem add_next (S : St) (o : Ob) : (S.add o).next = S.next + 1 := Eq.trans (Eq.refl _) (Eq.refl _)
theorem add_ob (S : St) (o : Ob) (k : Nat) : (S.add o).ob k = if k = S.next then some o else S.ob k := Eq.trans (Eq.refl _) (Eq.refl _)
theorem set_next (S : St) (k : Nat) (o : Ob) : (S.set k o).next = S.next := Eq.trans (Eq.refl _) (Eq.refl _)
theorem set_ob (S : St) (k j : Nat) (o : Ob) : (S.set k o).ob j = if j = k then some o else S.ob j := Eq.trans (Eq.refl _) (Eq.refl _)
theorem grow_next (S : St) (own : Own) (e : TypeId) (n : Nat) : (S.grow own e n).next = S.next + 1 := by cases own <;> rfl
theorem grow_full_ob (S : St) (e : TypeId) (n k : Nat) : (S.grow .full e n).ob k = if k = S.next then some (.row e n) else S.ob k := Eq.trans (Eq.refl _) (Eq.refl _)
theorem grow_row_ob (S : St) (g : Nat) (e : TypeId) (n k : Nat) : (S.grow (.row g) e n).ob k = if k = S.next then some (.row e n) else if k = g then none else S.ob k := Eq.trans (Eq.refl _) (Eq.refl _)
theorem getD_map {α : Type} (g : α → D) (l : List α) (i : Nat) (h : i < l.length) : (l.map g).getD i undefD = g l[i] := by simp [List.getD, h]
/-! Ends. -/
theorem pfin_ret (t : Tmp) (S' : St) (d : D) : DQ.pfin P [.tmp t] S d .ret f S' = PFin S S' (f t) d := by
  simp [DQ.pfin, dresL, dres, onVal, one]
theorem pfin_normal (t : Tmp) (S' : St) (d : D) : DQ.pfin P [.tmp t] S d .normal f S' = PFin S S' (f t) d := by
  simp [DQ.pfin, dresL, dres, onVal, one]
theorem pfin_ret2 (t u : Tmp) (S' : St) (d : D) : DQ.pfin P [.tmp t, .tmp u] S d .ret f S' = PFin S S' (.tup [f t, f u]) d := by
  simp [DQ.pfin, dresL, dres, onVal, one]
theorem pfin_normal2 (t u : Tmp) (S' : St) (d : D) : DQ.pfin P [.tmp t, .tmp u] S d .normal f S' = PFin S S' (.tup [f t, f u]) d := by
  simp [DQ.pfin, dresL, dres, onVal, one]
end

/-! A region that draws its order. -/
section
variable {P : Program} {f : Fm} {S : St}
def hnext (P : Program) (ops : Array Oper) (S : St) (R : Fm → St → Prop) (r : List Oper) (f : Fm) (dst : Option Tmp) (u : Option Ob) (d : D) : Prop := dhead P ops S R r (put f dst d) u
theorem hnext_eq (ops : Array Oper) (R : Fm → St → Prop) (r : List Oper) (dst : Option Tmp) (u : Option Ob) (d : D) : hnext P ops S R r f dst u d = dhead P ops S R r (put f dst d) u := Eq.trans (Eq.refl _) (Eq.refl _)
def hnextN (P : Program) (ops : Array Oper) (S : St) (R : Fm → St → Prop) (r : List Oper) (f : Fm) (dst : Option Tmp) (d : D) (u : Option Ob) : Prop := dhead P ops S R r (put f dst d) u
theorem hnextN_eq (ops : Array Oper) (R : Fm → St → Prop) (r : List Oper) (dst : Option Tmp) (u : Option Ob) (d : D) : hnextN P ops S R r f dst d u = dhead P ops S R r (put f dst d) u := Eq.trans (Eq.refl _) (Eq.refl _)
def hAt (K : D → Option Ob → Prop) (u : Option Ob) (d : D) : Prop := K d u
theorem hAt_eq (K : D → Option Ob → Prop) (u : Option Ob) (d : D) : hAt K u d = K d u := Eq.trans (Eq.refl _) (Eq.refl _)
def hskip (P : Program) (ops : Array Oper) (S : St) (R : Fm → St → Prop) (r : List Oper) (f : Fm) (dst : Option Tmp) (u : Option Ob) : Prop := dhead P ops S R r (put f dst undefD) u
def dquietF (P : Program) (f : Fm) (S : St) (ty : TypeId) (op : Op) (K : D → Prop) : Prop := dquiet P f S ty op K
def dtail (P : Program) (l : List Oper) (R : Fm → St → Prop) (n : Nat) (f : Fm) (S : St) : Prop := dops P (List.toArray l) R (l.drop n) f S
theorem dtail_eq (l : List Oper) (R : Fm → St → Prop) (n : Nat) : dtail P l R n f S = dops P (List.toArray l) R (l.drop n) f S := Eq.trans (Eq.refl _) (Eq.refl _)
theorem ddraw_mk (n : Nat) {l : List Oper} {R : Fm → St → Prop} (h : drawOk l n = true) (k : dhead P (List.toArray (l.take n)) S (dtail P l R n) (l.take n) f none) : ddraw P l R f S := .inl ⟨n, h, k⟩
theorem ddraw_any (Zs : St → Prop) (n : Nat) {l : List Oper} {R : Fm → St → Prop} (hz : Zs S) (h : (n == l.length || heldTailB l n) = true) (k : sAny P .any (List.toArray (l.take n)) Zs (dtail P l R n) (List.toArray (l.take n)).size (Array.replicate (List.toArray (l.take n)).size false) f S) : ddraw P l R f S := .inr ⟨Zs, n, hz, h, k⟩
theorem after_none (S : St) : after S none = S := Eq.trans (Eq.refl _) (Eq.refl _)
theorem after_some (S : St) (b : Ob) : after S (some b) = S.add b := Eq.trans (Eq.refl _) (Eq.refl _)
theorem dhead_nil (ops : Array Oper) (R : Fm → St → Prop) (u : Option Ob) : dhead P ops S R [] f u = R f (after S u) := Eq.trans (Eq.refl _) (Eq.refl _)
theorem dhead_plain (ops : Array Oper) (R : Fm → St → Prop) (r : List Oper) (dst : Option Tmp) (op : Op) (ty : TypeId) (pos : String) (aft : Array Edge) (u : Option Ob) : dhead P ops S R (⟨dst, op, ty, pos, aft, none⟩ :: r) f u = hop P f S u ty op (hnextN P ops S R r f dst) := Eq.trans (Eq.refl _) (Eq.refl _)
theorem dhead_guard (l : List Oper) (R : Fm → St → Prop) (r : List Oper) (dst : Option Tmp) (op : Op) (ty : TypeId) (pos : String) (aft : Array Edge) (j : Nat) (want : Bool) (u : Option Ob) :
    dhead P (List.toArray l) S R (⟨dst, op, ty, pos, aft, some (j, want)⟩ :: r) f u = dguardT (gtmp l j) f want (dquietF P f S ty op (hnext P (List.toArray l) S R r f dst u)) (hskip P (List.toArray l) S R r f dst u) := by
  rw [← gtmp_eq]; rfl
theorem hop_alloc {ty : TypeId} {K : D → Option Ob → Prop} (t : TypeId) : hop P f S none ty (.alloc t) K = (zeroOk P t = true ∧ K (.loc S.next 0) (some (.box t (zeroD P t)))) := by simp [hop]
theorem hop_box {ty : TypeId} {K : D → Option Ob → Prop} (t : TypeId) (x : Operand) : hop P f S none ty (.box t x) K = ((ev f x).okCell = true ∧ K (.loc S.next 0) (some (.box t (ev f x).cells))) := by simp [hop]
theorem hop_call {ty : TypeId} {K : D → Option Ob → Prop} {uo : Option Ob} (x : Operand) (args : List Operand) (ts : Array TypeId) : hop P f S uo ty (.call ⟨.value x, List.toArray args, ts⟩) K = dquiet P f S ty (.call ⟨.value x, List.toArray args, ts⟩) (hAt K uo) := Eq.trans (Eq.refl _) (Eq.refl _)
theorem hop_append {ty : TypeId} {K : D → Option Ob → Prop} {uo : Option Ob} (args : Array Operand) (ts : Array TypeId) : hop P f S uo ty (.call ⟨.builtin .append, args, ts⟩) K = dquiet P f S ty (.call ⟨.builtin .append, args, ts⟩) (hAt K uo) := Eq.trans (Eq.refl _) (Eq.refl _)
theorem hop_buildSlice {ty : TypeId} {K : D → Option Ob → Prop} {uo : Option Ob} (t : TypeId) (n : Nat) (ps : Array (Nat × Operand)) : hop P f S uo ty (.buildSlice t n ps) K = dquiet P f S ty (.buildSlice t n ps) (hAt K uo) := Eq.trans (Eq.refl _) (Eq.refl _)
theorem hop_build {ty : TypeId} {K : D → Option Ob → Prop} {uo : Option Ob} (t : TypeId) (ps : Array (Nat × Operand)) : hop P f S uo ty (.build t ps) K = dquiet P f S ty (.build t ps) (hAt K uo) := Eq.trans (Eq.refl _) (Eq.refl _)
theorem hop_move {ty : TypeId} {K : D → Option Ob → Prop} {uo : Option Ob} (x : Operand) : hop P f S uo ty (.move x) K = dquiet P f S ty (.move x) (hAt K uo) := Eq.trans (Eq.refl _) (Eq.refl _)
theorem hop_assign {ty : TypeId} {K : D → Option Ob → Prop} {uo : Option Ob} (x : Operand) : hop P f S uo ty (.assign x) K = dquiet P f S ty (.assign x) (hAt K uo) := Eq.trans (Eq.refl _) (Eq.refl _)
theorem hop_pick {ty : TypeId} {K : D → Option Ob → Prop} {uo : Option Ob} (c x y : Operand) : hop P f S uo ty (.pick c x y) K = dquiet P f S ty (.pick c x y) (hAt K uo) := Eq.trans (Eq.refl _) (Eq.refl _)
theorem hop_load {ty : TypeId} {K : D → Option Ob → Prop} {uo : Option Ob} (t : TypeId) (x : Operand) : hop P f S uo ty (.load t x) K = dquiet P f S ty (.load t x) (hAt K uo) := Eq.trans (Eq.refl _) (Eq.refl _)
theorem hop_fieldAddr {ty : TypeId} {K : D → Option Ob → Prop} {uo : Option Ob} (t : TypeId) (x : Operand) (i : Nat) : hop P f S uo ty (.fieldAddr t x i) K = dquiet P f S ty (.fieldAddr t x i) (hAt K uo) := Eq.trans (Eq.refl _) (Eq.refl _)
theorem hop_field {ty : TypeId} {K : D → Option Ob → Prop} {uo : Option Ob} (t : TypeId) (x : Operand) (i : Nat) : hop P f S uo ty (.field t x i) K = dquiet P f S ty (.field t x i) (hAt K uo) := Eq.trans (Eq.refl _) (Eq.refl _)
theorem hop_indexAddr {ty : TypeId} {K : D → Option Ob → Prop} {uo : Option Ob} (t : TypeId) (x i : Operand) : hop P f S uo ty (.indexAddr t x i) K = dquiet P f S ty (.indexAddr t x i) (hAt K uo) := Eq.trans (Eq.refl _) (Eq.refl _)
theorem hop_index {ty : TypeId} {K : D → Option Ob → Prop} {uo : Option Ob} (t : TypeId) (x i : Operand) : hop P f S uo ty (.index t x i) K = dquiet P f S ty (.index t x i) (hAt K uo) := Eq.trans (Eq.refl _) (Eq.refl _)
theorem hop_extract {ty : TypeId} {K : D → Option Ob → Prop} {uo : Option Ob} (x : Operand) (i : Nat) : hop P f S uo ty (.extract x i) K = dquiet P f S ty (.extract x i) (hAt K uo) := Eq.trans (Eq.refl _) (Eq.refl _)
theorem hop_makeFunc {ty : TypeId} {K : D → Option Ob → Prop} {uo : Option Ob} (fn : Fn) (fs cs : Array Operand) : hop P f S uo ty (.makeFunc fn fs cs) K = dquiet P f S ty (.makeFunc fn fs cs) (hAt K uo) := Eq.trans (Eq.refl _) (Eq.refl _)
theorem hop_makeInterface {ty : TypeId} {K : D → Option Ob → Prop} {uo : Option Ob} (t : TypeId) (x : Operand) : hop P f S uo ty (.makeInterface t x) K = dquiet P f S ty (.makeInterface t x) (hAt K uo) := Eq.trans (Eq.refl _) (Eq.refl _)
theorem hop_nilCheck {ty : TypeId} {K : D → Option Ob → Prop} {uo : Option Ob} (x : Operand) : hop P f S uo ty (.nilCheck x) K = dquiet P f S ty (.nilCheck x) (hAt K uo) := Eq.trans (Eq.refl _) (Eq.refl _)
theorem hop_slice {ty : TypeId} {K : D → Option Ob → Prop} {uo : Option Ob} (t : TypeId) (x : Operand) (lo hi mx : Option Operand) : hop P f S uo ty (.slice t x lo hi mx) K = dquiet P f S ty (.slice t x lo hi mx) (hAt K uo) := Eq.trans (Eq.refl _) (Eq.refl _)
theorem hop_binOp {ty : TypeId} {K : D → Option Ob → Prop} {uo : Option Ob} (op : BinOp) (t : TypeId) (x y : Operand) (u : TypeId) : hop P f S uo ty (.binOp op t x y u) K = dquiet P f S ty (.binOp op t x y u) (hAt K uo) := Eq.trans (Eq.refl _) (Eq.refl _)
theorem hop_unOp {ty : TypeId} {K : D → Option Ob → Prop} {uo : Option Ob} (op : UnOp) (t : TypeId) (x : Operand) : hop P f S uo ty (.unOp op t x) K = dquiet P f S ty (.unOp op t x) (hAt K uo) := Eq.trans (Eq.refl _) (Eq.refl _)
theorem hop_convert {ty : TypeId} {K : D → Option Ob → Prop} {uo : Option Ob} (s t : TypeId) (x : Operand) : hop P f S uo ty (.convert s t x) K = dquiet P f S ty (.convert s t x) (hAt K uo) := Eq.trans (Eq.refl _) (Eq.refl _)
theorem hop_b_len {ty : TypeId} {K : D → Option Ob → Prop} {uo : Option Ob} (args : Array Operand) (ts : Array TypeId) : hop P f S uo ty (.call ⟨.builtin .len, args, ts⟩) K = dquiet P f S ty (.call ⟨.builtin .len, args, ts⟩) (hAt K uo) := Eq.trans (Eq.refl _) (Eq.refl _)
theorem hop_b_cap {ty : TypeId} {K : D → Option Ob → Prop} {uo : Option Ob} (args : Array Operand) (ts : Array TypeId) : hop P f S uo ty (.call ⟨.builtin .cap, args, ts⟩) K = dquiet P f S ty (.call ⟨.builtin .cap, args, ts⟩) (hAt K uo) := Eq.trans (Eq.refl _) (Eq.refl _)
theorem hop_b_min {ty : TypeId} {K : D → Option Ob → Prop} {uo : Option Ob} (args : Array Operand) (ts : Array TypeId) : hop P f S uo ty (.call ⟨.builtin .min, args, ts⟩) K = dquiet P f S ty (.call ⟨.builtin .min, args, ts⟩) (hAt K uo) := Eq.trans (Eq.refl _) (Eq.refl _)
theorem hop_b_max {ty : TypeId} {K : D → Option Ob → Prop} {uo : Option Ob} (args : Array Operand) (ts : Array TypeId) : hop P f S uo ty (.call ⟨.builtin .max, args, ts⟩) K = dquiet P f S ty (.call ⟨.builtin .max, args, ts⟩) (hAt K uo) := Eq.trans (Eq.refl _) (Eq.refl _)
section
variable {y n : Prop} {ty : TypeId} {op : Op} {K : D → Prop} {ops : Array Oper} {R : Fm → St → Prop} {r : List Oper} {dst : Option Tmp} {u : Option Ob}
theorem hg_tt : dguard (.v (.bool true)) true (dquietF P f S ty op K) n = dquiet P f S ty op K := by simp [dguard, dquietF]
theorem hg_ff : dguard (.v (.bool false)) false (dquietF P f S ty op K) n = dquiet P f S ty op K := by simp [dguard, dquietF]
theorem hg_tf : dguard (.v (.bool true)) false y (hskip P ops S R r f dst u) = dhead P ops S R r (put f dst undefD) u := by simp [dguard, hskip]
theorem hg_ft : dguard (.v (.bool false)) true y (hskip P ops S R r f dst u) = dhead P ops S R r (put f dst undefD) u := by simp [dguard, hskip]
theorem hg_no (want : Bool) : dguard undefD want y (hskip P ops S R r f dst u) = dhead P ops S R r (put f dst undefD) u := Eq.trans (Eq.refl _) (Eq.refl _)
end
theorem dq_append {ty : TypeId} {K : D → Prop} (args : Array Operand) (ts : Array TypeId) : dquiet P f S ty (.call ⟨.builtin .append, args, ts⟩) K = onVal2 (dnew P f S (.call ⟨.builtin .append, args, ts⟩)) (dval P f S ty (.call ⟨.builtin .append, args, ts⟩)) K := Eq.trans (Eq.refl _) (Eq.refl _)
theorem onVal2_some (c : Prop) (d : D) (o : Option (Prop × D)) (K : D → Prop) : onVal2 (some (c, d)) o K = (c ∧ K d) := Eq.trans (Eq.refl _) (Eq.refl _)
theorem dq_buildSlice {ty : TypeId} {K : D → Prop} (t : TypeId) (n : Nat) (ps : Array (Nat × Operand)) : dquiet P f S ty (.buildSlice t n ps) K = onVal2 (dnew P f S (.buildSlice t n ps)) (dval P f S ty (.buildSlice t n ps)) K := Eq.trans (Eq.refl _) (Eq.refl _)
theorem dq_build {ty : TypeId} {K : D → Prop} (t : TypeId) (ps : Array (Nat × Operand)) : dquiet P f S ty (.build t ps) K = onVal2 (dnew P f S (.build t ps)) (dval P f S ty (.build t ps)) K := Eq.trans (Eq.refl _) (Eq.refl _)
theorem dq_move {ty : TypeId} {K : D → Prop} (x : Operand) : dquiet P f S ty (.move x) K = onVal (dval P f S ty (.move x)) K := Eq.trans (Eq.refl _) (Eq.refl _)
theorem dq_assign {ty : TypeId} {K : D → Prop} (x : Operand) : dquiet P f S ty (.assign x) K = onVal (dval P f S ty (.assign x)) K := Eq.trans (Eq.refl _) (Eq.refl _)
theorem dq_pick {ty : TypeId} {K : D → Prop} (c x y : Operand) : dquiet P f S ty (.pick c x y) K = onVal (dval P f S ty (.pick c x y)) K := Eq.trans (Eq.refl _) (Eq.refl _)
theorem dq_load {ty : TypeId} {K : D → Prop} (t : TypeId) (x : Operand) : dquiet P f S ty (.load t x) K = onVal (dval P f S ty (.load t x)) K := Eq.trans (Eq.refl _) (Eq.refl _)
theorem dq_fieldAddr {ty : TypeId} {K : D → Prop} (t : TypeId) (x : Operand) (i : Nat) : dquiet P f S ty (.fieldAddr t x i) K = onVal (dval P f S ty (.fieldAddr t x i)) K := Eq.trans (Eq.refl _) (Eq.refl _)
theorem dq_field {ty : TypeId} {K : D → Prop} (t : TypeId) (x : Operand) (i : Nat) : dquiet P f S ty (.field t x i) K = onVal (dval P f S ty (.field t x i)) K := Eq.trans (Eq.refl _) (Eq.refl _)
theorem dq_indexAddr {ty : TypeId} {K : D → Prop} (t : TypeId) (x i : Operand) : dquiet P f S ty (.indexAddr t x i) K = onVal (dval P f S ty (.indexAddr t x i)) K := Eq.trans (Eq.refl _) (Eq.refl _)
theorem dq_index {ty : TypeId} {K : D → Prop} (t : TypeId) (x i : Operand) : dquiet P f S ty (.index t x i) K = onVal (dval P f S ty (.index t x i)) K := Eq.trans (Eq.refl _) (Eq.refl _)
theorem dq_extract {ty : TypeId} {K : D → Prop} (x : Operand) (i : Nat) : dquiet P f S ty (.extract x i) K = onVal (dval P f S ty (.extract x i)) K := Eq.trans (Eq.refl _) (Eq.refl _)
theorem dq_makeFunc {ty : TypeId} {K : D → Prop} (fn : Fn) (fs cs : Array Operand) : dquiet P f S ty (.makeFunc fn fs cs) K = onVal (dval P f S ty (.makeFunc fn fs cs)) K := Eq.trans (Eq.refl _) (Eq.refl _)
theorem dq_makeInterface {ty : TypeId} {K : D → Prop} (t : TypeId) (x : Operand) : dquiet P f S ty (.makeInterface t x) K = onVal (dval P f S ty (.makeInterface t x)) K := Eq.trans (Eq.refl _) (Eq.refl _)
theorem dq_nilCheck {ty : TypeId} {K : D → Prop} (x : Operand) : dquiet P f S ty (.nilCheck x) K = onVal (dval P f S ty (.nilCheck x)) K := Eq.trans (Eq.refl _) (Eq.refl _)
theorem dq_slice {ty : TypeId} {K : D → Prop} (t : TypeId) (x : Operand) (lo hi mx : Option Operand) : dquiet P f S ty (.slice t x lo hi mx) K = onVal (dval P f S ty (.slice t x lo hi mx)) K := Eq.trans (Eq.refl _) (Eq.refl _)
theorem dq_binOp {ty : TypeId} {K : D → Prop} (op : BinOp) (t : TypeId) (x y : Operand) (u : TypeId) : dquiet P f S ty (.binOp op t x y u) K = onVal (dval P f S ty (.binOp op t x y u)) K := Eq.trans (Eq.refl _) (Eq.refl _)
theorem dq_unOp {ty : TypeId} {K : D → Prop} (op : UnOp) (t : TypeId) (x : Operand) : dquiet P f S ty (.unOp op t x) K = onVal (dval P f S ty (.unOp op t x)) K := Eq.trans (Eq.refl _) (Eq.refl _)
theorem onVal_orD {a b : Option (Prop × D)} {K : D → Prop} : onVal2 a b K = onVal (orD a b) K := by cases a <;> rfl
theorem dq_convert {ty : TypeId} {K : D → Prop} (s t : TypeId) (x : Operand) : dquiet P f S ty (.convert s t x) K = onVal (orD (dnew P f S (.convert s t x)) (dval P f S ty (.convert s t x))) K := Eq.trans (Eq.trans (Eq.refl _) onVal_orD) (Eq.refl _)
theorem dq_b_len {ty : TypeId} {K : D → Prop} (args : Array Operand) (ts : Array TypeId) : dquiet P f S ty (.call ⟨.builtin .len, args, ts⟩) K = onVal (dval P f S ty (.call ⟨.builtin .len, args, ts⟩)) K := Eq.trans (Eq.refl _) (Eq.refl _)
theorem dq_b_cap {ty : TypeId} {K : D → Prop} (args : Array Operand) (ts : Array TypeId) : dquiet P f S ty (.call ⟨.builtin .cap, args, ts⟩) K = onVal (dval P f S ty (.call ⟨.builtin .cap, args, ts⟩)) K := Eq.trans (Eq.refl _) (Eq.refl _)
theorem dq_b_min {ty : TypeId} {K : D → Prop} (args : Array Operand) (ts : Array TypeId) : dquiet P f S ty (.call ⟨.builtin .min, args, ts⟩) K = onVal (dval P f S ty (.call ⟨.builtin .min, args, ts⟩)) K := Eq.trans (Eq.refl _) (Eq.refl _)
theorem dq_b_max {ty : TypeId} {K : D → Prop} (args : Array Operand) (ts : Array TypeId) : dquiet P f S ty (.call ⟨.builtin .max, args, ts⟩) K = onVal (dval P f S ty (.call ⟨.builtin .max, args, ts⟩)) K := Eq.trans (Eq.refl _) (Eq.refl _)
end
theorem width_len (d : D) : d.width = d.cells.length := Eq.trans (Eq.refl _) (Eq.refl _)
theorem cells_agg_ (cs : List D) : (D.agg cs).cells = cs := Eq.trans (Eq.refl _) (Eq.refl _)
theorem cells_v_ (x : Value) : (D.v x).cells = [D.v x] := Eq.trans (Eq.refl _) (Eq.refl _)
theorem cells_tup_ (cs : List D) : (D.tup cs).cells = [D.tup cs] := Eq.trans (Eq.refl _) (Eq.refl _)
theorem cells_fn_ (g : Fn) (fs cs : List D) : (D.fn g fs cs).cells = [D.fn g fs cs] := Eq.trans (Eq.refl _) (Eq.refl _)
theorem okCell_fn_ (g : Fn) (fs cs : List D) : (D.fn g fs cs).okCell = true := Eq.trans (Eq.refl _) (Eq.refl _)
theorem cells_ifc_ (t : TypeId) (d : D) : (D.ifc t d).cells = [D.ifc t d] := Eq.trans (Eq.refl _) (Eq.refl _)
theorem okCell_ifc_ (t : TypeId) (d : D) : (D.ifc t d).okCell = true := Eq.trans (Eq.refl _) (Eq.refl _)
theorem cells_loc_ (k o : Nat) : (D.loc k o).cells = [D.loc k o] := Eq.trans (Eq.refl _) (Eq.refl _)
theorem okCell_loc_ (k o : Nat) : (D.loc k o).okCell = true := Eq.trans (Eq.refl _) (Eq.refl _)
theorem cells_rd_ (cs : List D) (o : Nat) : (D.rd cs o).cells = [D.rd cs o] := Eq.trans (Eq.refl _) (Eq.refl _)
theorem okCell_rd_ (cs : List D) (o : Nat) : (D.rd cs o).okCell = true := Eq.trans (Eq.refl _) (Eq.refl _)
theorem cells_sl_ (o : Own) (es : List D) : (D.sl o es).cells = [D.sl o es] := Eq.trans (Eq.refl _) (Eq.refl _)
theorem okCell_sl_ (o : Own) (es : List D) : (D.sl o es).okCell = true := Eq.trans (Eq.refl _) (Eq.refl _)
theorem okCell_agg_ (cs : List D) : (D.agg cs).okCell = true := Eq.trans (Eq.refl _) (Eq.refl _)
theorem okCell_bool_ (b : Bool) : (D.v (.bool b)).okCell = true := Eq.trans (Eq.refl _) (Eq.refl _)
theorem okCell_int_ (k : IntKind) (n : Int) : (D.v (.int k n)).okCell = true := Eq.trans (Eq.refl _) (Eq.refl _)
theorem okCell_string_ (s : ByteArray) : (D.v (.string s)).okCell = true := Eq.trans (Eq.refl _) (Eq.refl _)
theorem okCell_pointer_ (x : Option Addr) : (D.v (.pointer x)).okCell = true := Eq.trans (Eq.refl _) (Eq.refl _)
theorem okCell_slice_ (x : Option Addr) (n m : Nat) : (D.v (.slice x n m)).okCell = true := Eq.trans (Eq.refl _) (Eq.refl _)
theorem okCell_nilFunc_  : (D.v (.nilFunc)).okCell = true := Eq.trans (Eq.refl _) (Eq.refl _)
theorem okCell_nilIface_  : (D.v (.nilIface)).okCell = true := Eq.trans (Eq.refl _) (Eq.refl _)
theorem okCell_float_ (k : FloatKind) (n : Nat) : (D.v (.float k n)).okCell = true := Eq.trans (Eq.refl _) (Eq.refl _)
theorem okCell_map_ (r : Option Nat) : (D.v (.map r)).okCell = true := Eq.trans (Eq.refl _) (Eq.refl _)
theorem okCell_func_ (g : Fn) (x y : Array Value) : (D.v (.func g x y)).okCell = true := Eq.trans (Eq.refl _) (Eq.refl _)
theorem okCell_iface_ (t : TypeId) (x : Value) : (D.v (.iface t x)).okCell = true := Eq.trans (Eq.refl _) (Eq.refl _)
attribute [go_sem_proc] Nat.reduceMul Nat.reduceBEq Nat.reduceAdd Nat.reduceLeDiff Nat.reduceEqDiff Nat.reduceLT
attribute [go_sem_proc ↓] reduceIte
attribute [go_sem] width_len cells_agg_ cells_v_ cells_tup_ cells_fn_ okCell_fn_ cells_ifc_ okCell_ifc_ cells_loc_ okCell_loc_ cells_rd_ okCell_rd_ cells_sl_ okCell_sl_ okCell_agg_ okCell_bool_ okCell_int_ okCell_string_ okCell_pointer_ okCell_slice_ okCell_nilFunc_ okCell_nilIface_ okCell_float_ okCell_map_ okCell_func_ okCell_iface_
attribute [go_sem] hnext_eq hnextN_eq hAt_eq after_none after_some hop_alloc hop_box hop_call hop_append hop_buildSlice hop_build hop_move hop_assign hop_pick hop_load hop_fieldAddr hop_field hop_indexAddr hop_index hop_extract hop_makeFunc hop_makeInterface hop_nilCheck hop_slice hop_binOp hop_unOp hop_convert hop_b_len hop_b_cap hop_b_min hop_b_max dtail_eq dhead_nil dhead_plain dhead_guard hg_tt hg_ff hg_tf hg_ft hg_no dq_append onVal2_some onVal_some dq_buildSlice dq_build dq_move dq_assign dq_pick dq_load dq_fieldAddr dq_field dq_indexAddr dq_index dq_extract dq_makeFunc dq_makeInterface dq_nilCheck dq_slice dq_binOp dq_unOp dq_convert dq_b_len dq_b_cap dq_b_min dq_b_max
attribute [go_sem] bin_leql bin_lneq bin_ieql bin_ineq bin_ifc orD_some orD_none bytesD_map
attribute [go_sem] decide_true decide_false pureRun_pure Bool.not_true Bool.not_false Bool.true_or Bool.false_or Bool.or_true Bool.or_false Bool.true_and Bool.false_and Bool.and_true Bool.and_false dg_tt dg_ff dg_tf dg_ft dg_no dIf_t dIf_f List.length_map Int.toNat_natCast dwp_skip dwp_label dwp_exit dwp_ret dwp_seq dwp_block dwp_loop dwp_cond dwp_region dwp_draw then_normal then_exit then_ret block_normal block_ret block_eq block_ne dnext_eq gtmp_zero gtmp_succ dguardT_some dops_nil dops_plain dops_guard onValS_some dop_move dop_assign dop_pick dop_load dop_fieldAddr dop_field dop_indexAddr dop_index dop_extract dop_makeFunc dop_makeInterface dop_nilCheck dop_slice dop_binOp dop_unOp dop_convert dop_b_len dop_b_cap dop_b_min dop_b_max dop_buildSlice dop_build dop_alloc dop_box dop_store dop_call dop_append dop_typeAssert dop_invoke winOff_zero dcall_fn put_eq put_ne put_none argF_zero argF_succ argF_nil ofV_int ofV_bool ofV_string ofV_nil ofV_iface ofV_func ofV_ptr bin_add bin_sub bin_mul bin_eql bin_neq bin_lss bin_leq bin_gtr bin_geq bin_seql bin_sneq bin_slss bin_sgtr bin_sleq bin_sgeq un_not un_neg bu_max bu_min add_next set_next grow_next grow_full_ob grow_row_ob pfin_ret pfin_normal pfin_ret2 pfin_normal2 list_of_array dstore dappend dval dnew ev rdOk rdVal splice true_and and_true cond_true cond_false List.map_cons List.map_nil List.length_cons List.length_nil List.take_succ_cons List.take_zero List.drop_succ_cons List.drop_zero List.getD_cons_zero List.getD_cons_succ List.cons_append List.nil_append List.append_nil ne_eq not_false_eq_true Nat.zero_add Nat.add_zero Option.map_some
section
theorem fillD_nil (pl : Nat → Option (Nat × Nat)) (cs : List D) : fillD pl cs [] = (True, cs) := by unfold fillD; exact Eq.trans (Eq.refl _) (Eq.refl _)
def fillS (o : Option (Nat × Nat)) (pl : Nat → Option (Nat × Nat)) (cs : List D) (d : D) (r : List (Nat × D)) : Prop × List D := match o with
  | some (off, n) => (d.okCell = true ∧ d.width = n ∧ off + n ≤ cs.length ∧ (fillD pl (splice cs off d.cells) r).1, (fillD pl (splice cs off d.cells) r).2)
  | none => (False, cs)
theorem fillD_cons (pl : Nat → Option (Nat × Nat)) (cs : List D) (i : Nat) (d : D) (r : List (Nat × D)) : fillD pl cs ((i, d) :: r) = fillS (pl i) pl cs d r := by
  rw [fillD]; unfold fillS; cases pl i <;> rfl
theorem fillS_some (off n : Nat) (pl : Nat → Option (Nat × Nat)) (cs : List D) (d : D) (r : List (Nat × D)) : fillS (some (off, n)) pl cs d r = (d.okCell = true ∧ d.width = n ∧ off + n ≤ cs.length ∧ (fillD pl (splice cs off d.cells) r).1, (fillD pl (splice cs off d.cells) r).2) := Eq.trans (Eq.refl _) (Eq.refl _)
attribute [go_sem] fillD_nil fillD_cons fillS_some
def dcellR (P : Program) (S' : St) (t : TypeId) (x : D) (K : D → Prop) : Prop := match x with
  | .loc k off => match S'.ob k with
    | some (.box _ cs) => rdOk P t cs off ∧ K (rdVal P t cs off)
    | _ => False
  | _ => False
attribute [go_sem] dcellR
end
end Go.Proofs.YtbcabejdchkpmaaDoor

namespace Go.Proofs.YtbcabejdchkpmaaDoor

@[go_sem] theorem okT_1 : okT Tryd.prog 1 = true := by kernel_rfl
@[go_sem] theorem szOf_1 : szOf Tryd.prog 1 = 1 := by kernel_rfl
@[go_sem] theorem aggT_1 : aggT Tryd.prog 1 = false := by kernel_rfl
@[go_sem] theorem undS_1 : (Tryd.prog.underlying 1).isSome = true := by kernel_rfl
@[go_sem] theorem infS_1 : (Tryd.prog.info? 1).isSome = true := by kernel_rfl
@[go_sem] theorem ifaceT_1 : ifaceT Tryd.prog 1 = false := by kernel_rfl
@[go_sem] theorem ptrT_1 : ptrT Tryd.prog 1 = false := by kernel_rfl
@[go_sem] theorem zeroT_1 : zeroT Tryd.prog 1 = true := by kernel_rfl
@[go_sem] theorem zeroOk_1 : zeroOk Tryd.prog 1 = true := by kernel_rfl
@[go_sem] theorem bytesOf_1 : bytesOf Tryd.prog 1 = 8 := by kernel_rfl
@[go_sem] theorem zeroD_1 : zeroD Tryd.prog 1 = [.v .nilFunc] := by kernel_rfl
@[go_sem] theorem okT_2 : okT Tryd.prog 2 = true := by kernel_rfl
@[go_sem] theorem szOf_2 : szOf Tryd.prog 2 = 1 := by kernel_rfl
@[go_sem] theorem aggT_2 : aggT Tryd.prog 2 = false := by kernel_rfl
@[go_sem] theorem undS_2 : (Tryd.prog.underlying 2).isSome = true := by kernel_rfl
@[go_sem] theorem infS_2 : (Tryd.prog.info? 2).isSome = true := by kernel_rfl
@[go_sem] theorem ifaceT_2 : ifaceT Tryd.prog 2 = false := by kernel_rfl
@[go_sem] theorem ptrT_2 : ptrT Tryd.prog 2 = false := by kernel_rfl
@[go_sem] theorem zeroT_2 : zeroT Tryd.prog 2 = true := by kernel_rfl
@[go_sem] theorem zeroOk_2 : zeroOk Tryd.prog 2 = true := by kernel_rfl
@[go_sem] theorem bytesOf_2 : bytesOf Tryd.prog 2 = 8 := by kernel_rfl
@[go_sem] theorem zeroD_2 : zeroD Tryd.prog 2 = [.v (.int .i64 0)] := by kernel_rfl
@[go_sem] theorem okT_3 : okT Tryd.prog 3 = true := by kernel_rfl
@[go_sem] theorem szOf_3 : szOf Tryd.prog 3 = 1 := by kernel_rfl
@[go_sem] theorem aggT_3 : aggT Tryd.prog 3 = false := by kernel_rfl
@[go_sem] theorem undS_3 : (Tryd.prog.underlying 3).isSome = true := by kernel_rfl
@[go_sem] theorem infS_3 : (Tryd.prog.info? 3).isSome = true := by kernel_rfl
@[go_sem] theorem ifaceT_3 : ifaceT Tryd.prog 3 = false := by kernel_rfl
@[go_sem] theorem ptrT_3 : ptrT Tryd.prog 3 = false := by kernel_rfl
@[go_sem] theorem zeroT_3 : zeroT Tryd.prog 3 = true := by kernel_rfl
@[go_sem] theorem zeroOk_3 : zeroOk Tryd.prog 3 = true := by kernel_rfl
@[go_sem] theorem bytesOf_3 : bytesOf Tryd.prog 3 = 8 := by kernel_rfl
@[go_sem] theorem zeroD_3 : zeroD Tryd.prog 3 = [.v (.int .i64 0)] := by kernel_rfl
@[go_sem] theorem okT_4 : okT Tryd.prog 4 = true := by kernel_rfl
@[go_sem] theorem szOf_4 : szOf Tryd.prog 4 = 1 := by kernel_rfl
@[go_sem] theorem aggT_4 : aggT Tryd.prog 4 = false := by kernel_rfl
@[go_sem] theorem undS_4 : (Tryd.prog.underlying 4).isSome = true := by kernel_rfl
@[go_sem] theorem infS_4 : (Tryd.prog.info? 4).isSome = true := by kernel_rfl
@[go_sem] theorem ifaceT_4 : ifaceT Tryd.prog 4 = false := by kernel_rfl
@[go_sem] theorem ptrT_4 : ptrT Tryd.prog 4 = false := by kernel_rfl
@[go_sem] theorem zeroT_4 : zeroT Tryd.prog 4 = true := by kernel_rfl
@[go_sem] theorem zeroOk_4 : zeroOk Tryd.prog 4 = true := by kernel_rfl
@[go_sem] theorem bytesOf_4 : bytesOf Tryd.prog 4 = 1 := by kernel_rfl
@[go_sem] theorem zeroD_4 : zeroD Tryd.prog 4 = [.v (.bool false)] := by kernel_rfl
@[go_sem] theorem okT_5 : okT Tryd.prog 5 = true := by kernel_rfl
@[go_sem] theorem szOf_5 : szOf Tryd.prog 5 = 1 := by kernel_rfl
@[go_sem] theorem aggT_5 : aggT Tryd.prog 5 = false := by kernel_rfl
@[go_sem] theorem undS_5 : (Tryd.prog.underlying 5).isSome = true := by kernel_rfl
@[go_sem] theorem infS_5 : (Tryd.prog.info? 5).isSome = true := by kernel_rfl
@[go_sem] theorem ifaceT_5 : ifaceT Tryd.prog 5 = false := by kernel_rfl
@[go_sem] theorem ptrT_5 : ptrT Tryd.prog 5 = false := by kernel_rfl
@[go_sem] theorem zeroT_5 : zeroT Tryd.prog 5 = true := by kernel_rfl
@[go_sem] theorem zeroOk_5 : zeroOk Tryd.prog 5 = true := by kernel_rfl
@[go_sem] theorem bytesOf_5 : bytesOf Tryd.prog 5 = 1 := by kernel_rfl
@[go_sem] theorem zeroD_5 : zeroD Tryd.prog 5 = [.v (.int .u8 0)] := by kernel_rfl
@[go_sem] theorem okT_6 : okT Tryd.prog 6 = true := by kernel_rfl
@[go_sem] theorem szOf_6 : szOf Tryd.prog 6 = 1 := by kernel_rfl
@[go_sem] theorem aggT_6 : aggT Tryd.prog 6 = false := by kernel_rfl
@[go_sem] theorem undS_6 : (Tryd.prog.underlying 6).isSome = true := by kernel_rfl
@[go_sem] theorem infS_6 : (Tryd.prog.info? 6).isSome = true := by kernel_rfl
@[go_sem] theorem ifaceT_6 : ifaceT Tryd.prog 6 = false := by kernel_rfl
@[go_sem] theorem ptrT_6 : ptrT Tryd.prog 6 = false := by kernel_rfl
@[go_sem] theorem zeroT_6 : zeroT Tryd.prog 6 = true := by kernel_rfl
@[go_sem] theorem zeroOk_6 : zeroOk Tryd.prog 6 = true := by kernel_rfl
@[go_sem] theorem bytesOf_6 : bytesOf Tryd.prog 6 = 1 := by kernel_rfl
@[go_sem] theorem zeroD_6 : zeroD Tryd.prog 6 = [.v (.int .u8 0)] := by kernel_rfl
@[go_sem] theorem okT_8 : okT Tryd.prog 8 = true := by kernel_rfl
@[go_sem] theorem szOf_8 : szOf Tryd.prog 8 = 4 := by kernel_rfl
@[go_sem] theorem aggT_8 : aggT Tryd.prog 8 = true := by kernel_rfl
@[go_sem] theorem undS_8 : (Tryd.prog.underlying 8).isSome = true := by kernel_rfl
@[go_sem] theorem infS_8 : (Tryd.prog.info? 8).isSome = true := by kernel_rfl
@[go_sem] theorem ifaceT_8 : ifaceT Tryd.prog 8 = false := by kernel_rfl
@[go_sem] theorem ptrT_8 : ptrT Tryd.prog 8 = false := by kernel_rfl
@[go_sem] theorem zeroT_8 : zeroT Tryd.prog 8 = true := by kernel_rfl
@[go_sem] theorem zeroOk_8 : zeroOk Tryd.prog 8 = true := by kernel_rfl
@[go_sem] theorem bytesOf_8 : bytesOf Tryd.prog 8 = 24 := by kernel_rfl
@[go_sem] theorem zeroD_8 : zeroD Tryd.prog 8 = [.v (.int .i64 0), .v (.int .i64 0), .v (.bool false), .v (.int .u8 0)] := by kernel_rfl
@[go_sem] theorem fld_8_0 : fld Tryd.prog 8 0 = some (0, 2) := by kernel_rfl
@[go_sem] theorem fld_8_1 : fld Tryd.prog 8 1 = some (1, 3) := by kernel_rfl
@[go_sem] theorem fld_8_2 : fld Tryd.prog 8 2 = some (2, 4) := by kernel_rfl
@[go_sem] theorem fld_8_3 : fld Tryd.prog 8 3 = some (3, 6) := by kernel_rfl
@[go_sem] theorem okT_9 : okT Tryd.prog 9 = true := by kernel_rfl
@[go_sem] theorem szOf_9 : szOf Tryd.prog 9 = 1 := by kernel_rfl
@[go_sem] theorem aggT_9 : aggT Tryd.prog 9 = false := by kernel_rfl
@[go_sem] theorem undS_9 : (Tryd.prog.underlying 9).isSome = true := by kernel_rfl
@[go_sem] theorem infS_9 : (Tryd.prog.info? 9).isSome = true := by kernel_rfl
@[go_sem] theorem ifaceT_9 : ifaceT Tryd.prog 9 = false := by kernel_rfl
@[go_sem] theorem ptrT_9 : ptrT Tryd.prog 9 = false := by kernel_rfl
@[go_sem] theorem zeroT_9 : zeroT Tryd.prog 9 = true := by kernel_rfl
@[go_sem] theorem zeroOk_9 : zeroOk Tryd.prog 9 = true := by kernel_rfl
@[go_sem] theorem bytesOf_9 : bytesOf Tryd.prog 9 = 16 := by kernel_rfl
@[go_sem] theorem zeroD_9 : zeroD Tryd.prog 9 = [.v (.string ⟨#[]⟩)] := by kernel_rfl
@[go_sem] theorem strT_9 : strT Tryd.prog 9 = true := by kernel_rfl
@[go_sem] theorem okT_10 : okT Tryd.prog 10 = true := by kernel_rfl
@[go_sem] theorem szOf_10 : szOf Tryd.prog 10 = 1 := by kernel_rfl
@[go_sem] theorem aggT_10 : aggT Tryd.prog 10 = false := by kernel_rfl
@[go_sem] theorem undS_10 : (Tryd.prog.underlying 10).isSome = true := by kernel_rfl
@[go_sem] theorem infS_10 : (Tryd.prog.info? 10).isSome = true := by kernel_rfl
@[go_sem] theorem ifaceT_10 : ifaceT Tryd.prog 10 = false := by kernel_rfl
@[go_sem] theorem ptrT_10 : ptrT Tryd.prog 10 = false := by kernel_rfl
@[go_sem] theorem zeroT_10 : zeroT Tryd.prog 10 = true := by kernel_rfl
@[go_sem] theorem zeroOk_10 : zeroOk Tryd.prog 10 = true := by kernel_rfl
@[go_sem] theorem bytesOf_10 : bytesOf Tryd.prog 10 = 16 := by kernel_rfl
@[go_sem] theorem zeroD_10 : zeroD Tryd.prog 10 = [.v (.string ⟨#[]⟩)] := by kernel_rfl
@[go_sem] theorem strT_10 : strT Tryd.prog 10 = true := by kernel_rfl
@[go_sem] theorem okT_11 : okT Tryd.prog 11 = true := by kernel_rfl
@[go_sem] theorem szOf_11 : szOf Tryd.prog 11 = 1 := by kernel_rfl
@[go_sem] theorem aggT_11 : aggT Tryd.prog 11 = false := by kernel_rfl
@[go_sem] theorem undS_11 : (Tryd.prog.underlying 11).isSome = true := by kernel_rfl
@[go_sem] theorem infS_11 : (Tryd.prog.info? 11).isSome = true := by kernel_rfl
@[go_sem] theorem ifaceT_11 : ifaceT Tryd.prog 11 = false := by kernel_rfl
@[go_sem] theorem ptrT_11 : ptrT Tryd.prog 11 = false := by kernel_rfl
@[go_sem] theorem zeroT_11 : zeroT Tryd.prog 11 = true := by kernel_rfl
@[go_sem] theorem zeroOk_11 : zeroOk Tryd.prog 11 = true := by kernel_rfl
@[go_sem] theorem bytesOf_11 : bytesOf Tryd.prog 11 = 16 := by kernel_rfl
@[go_sem] theorem zeroD_11 : zeroD Tryd.prog 11 = [.v (.string ⟨#[]⟩)] := by kernel_rfl
@[go_sem] theorem strT_11 : strT Tryd.prog 11 = true := by kernel_rfl
@[go_sem] theorem okT_12 : okT Tryd.prog 12 = true := by kernel_rfl
@[go_sem] theorem szOf_12 : szOf Tryd.prog 12 = 1 := by kernel_rfl
@[go_sem] theorem aggT_12 : aggT Tryd.prog 12 = false := by kernel_rfl
@[go_sem] theorem undS_12 : (Tryd.prog.underlying 12).isSome = true := by kernel_rfl
@[go_sem] theorem infS_12 : (Tryd.prog.info? 12).isSome = true := by kernel_rfl
@[go_sem] theorem ifaceT_12 : ifaceT Tryd.prog 12 = false := by kernel_rfl
@[go_sem] theorem ptrT_12 : ptrT Tryd.prog 12 = false := by kernel_rfl
@[go_sem] theorem zeroT_12 : zeroT Tryd.prog 12 = true := by kernel_rfl
@[go_sem] theorem zeroOk_12 : zeroOk Tryd.prog 12 = true := by kernel_rfl
@[go_sem] theorem bytesOf_12 : bytesOf Tryd.prog 12 = 8 := by kernel_rfl
@[go_sem] theorem zeroD_12 : zeroD Tryd.prog 12 = [.v (.int .u64 0)] := by kernel_rfl
@[go_sem] theorem okT_13 : okT Tryd.prog 13 = true := by kernel_rfl
@[go_sem] theorem szOf_13 : szOf Tryd.prog 13 = 2 := by kernel_rfl
@[go_sem] theorem aggT_13 : aggT Tryd.prog 13 = true := by kernel_rfl
@[go_sem] theorem undS_13 : (Tryd.prog.underlying 13).isSome = true := by kernel_rfl
@[go_sem] theorem infS_13 : (Tryd.prog.info? 13).isSome = true := by kernel_rfl
@[go_sem] theorem ifaceT_13 : ifaceT Tryd.prog 13 = false := by kernel_rfl
@[go_sem] theorem ptrT_13 : ptrT Tryd.prog 13 = false := by kernel_rfl
@[go_sem] theorem zeroT_13 : zeroT Tryd.prog 13 = true := by kernel_rfl
@[go_sem] theorem zeroOk_13 : zeroOk Tryd.prog 13 = true := by kernel_rfl
@[go_sem] theorem bytesOf_13 : bytesOf Tryd.prog 13 = 24 := by kernel_rfl
@[go_sem] theorem zeroD_13 : zeroD Tryd.prog 13 = [.v (.string ⟨#[]⟩), .v (.int .u64 0)] := by kernel_rfl
@[go_sem] theorem fld_13_0 : fld Tryd.prog 13 0 = some (0, 9) := by kernel_rfl
@[go_sem] theorem fld_13_1 : fld Tryd.prog 13 1 = some (1, 12) := by kernel_rfl
@[go_sem] theorem okT_14 : okT Tryd.prog 14 = true := by kernel_rfl
@[go_sem] theorem szOf_14 : szOf Tryd.prog 14 = 2 := by kernel_rfl
@[go_sem] theorem aggT_14 : aggT Tryd.prog 14 = true := by kernel_rfl
@[go_sem] theorem undS_14 : (Tryd.prog.underlying 14).isSome = true := by kernel_rfl
@[go_sem] theorem infS_14 : (Tryd.prog.info? 14).isSome = true := by kernel_rfl
@[go_sem] theorem ifaceT_14 : ifaceT Tryd.prog 14 = false := by kernel_rfl
@[go_sem] theorem ptrT_14 : ptrT Tryd.prog 14 = false := by kernel_rfl
@[go_sem] theorem zeroT_14 : zeroT Tryd.prog 14 = true := by kernel_rfl
@[go_sem] theorem zeroOk_14 : zeroOk Tryd.prog 14 = true := by kernel_rfl
@[go_sem] theorem bytesOf_14 : bytesOf Tryd.prog 14 = 24 := by kernel_rfl
@[go_sem] theorem zeroD_14 : zeroD Tryd.prog 14 = [.v (.string ⟨#[]⟩), .v (.int .u64 0)] := by kernel_rfl
@[go_sem] theorem fld_14_0 : fld Tryd.prog 14 0 = some (0, 9) := by kernel_rfl
@[go_sem] theorem fld_14_1 : fld Tryd.prog 14 1 = some (1, 12) := by kernel_rfl
@[go_sem] theorem okT_15 : okT Tryd.prog 15 = true := by kernel_rfl
@[go_sem] theorem szOf_15 : szOf Tryd.prog 15 = 1 := by kernel_rfl
@[go_sem] theorem aggT_15 : aggT Tryd.prog 15 = false := by kernel_rfl
@[go_sem] theorem undS_15 : (Tryd.prog.underlying 15).isSome = true := by kernel_rfl
@[go_sem] theorem infS_15 : (Tryd.prog.info? 15).isSome = true := by kernel_rfl
@[go_sem] theorem ifaceT_15 : ifaceT Tryd.prog 15 = false := by kernel_rfl
@[go_sem] theorem ptrT_15 : ptrT Tryd.prog 15 = true := by kernel_rfl
@[go_sem] theorem zeroT_15 : zeroT Tryd.prog 15 = true := by kernel_rfl
@[go_sem] theorem zeroOk_15 : zeroOk Tryd.prog 15 = true := by kernel_rfl
@[go_sem] theorem bytesOf_15 : bytesOf Tryd.prog 15 = 8 := by kernel_rfl
@[go_sem] theorem zeroD_15 : zeroD Tryd.prog 15 = [.v (.pointer none)] := by kernel_rfl
@[go_sem] theorem okT_17 : okT Tryd.prog 17 = true := by kernel_rfl
@[go_sem] theorem szOf_17 : szOf Tryd.prog 17 = 1 := by kernel_rfl
@[go_sem] theorem aggT_17 : aggT Tryd.prog 17 = false := by kernel_rfl
@[go_sem] theorem undS_17 : (Tryd.prog.underlying 17).isSome = true := by kernel_rfl
@[go_sem] theorem infS_17 : (Tryd.prog.info? 17).isSome = true := by kernel_rfl
@[go_sem] theorem ifaceT_17 : ifaceT Tryd.prog 17 = false := by kernel_rfl
@[go_sem] theorem ptrT_17 : ptrT Tryd.prog 17 = true := by kernel_rfl
@[go_sem] theorem zeroT_17 : zeroT Tryd.prog 17 = true := by kernel_rfl
@[go_sem] theorem zeroOk_17 : zeroOk Tryd.prog 17 = true := by kernel_rfl
@[go_sem] theorem bytesOf_17 : bytesOf Tryd.prog 17 = 8 := by kernel_rfl
@[go_sem] theorem zeroD_17 : zeroD Tryd.prog 17 = [.v (.pointer none)] := by kernel_rfl
@[go_sem] theorem okT_18 : okT Tryd.prog 18 = true := by kernel_rfl
@[go_sem] theorem szOf_18 : szOf Tryd.prog 18 = 1 := by kernel_rfl
@[go_sem] theorem aggT_18 : aggT Tryd.prog 18 = true := by kernel_rfl
@[go_sem] theorem undS_18 : (Tryd.prog.underlying 18).isSome = true := by kernel_rfl
@[go_sem] theorem infS_18 : (Tryd.prog.info? 18).isSome = true := by kernel_rfl
@[go_sem] theorem ifaceT_18 : ifaceT Tryd.prog 18 = false := by kernel_rfl
@[go_sem] theorem ptrT_18 : ptrT Tryd.prog 18 = false := by kernel_rfl
@[go_sem] theorem zeroT_18 : zeroT Tryd.prog 18 = true := by kernel_rfl
@[go_sem] theorem zeroOk_18 : zeroOk Tryd.prog 18 = true := by kernel_rfl
@[go_sem] theorem bytesOf_18 : bytesOf Tryd.prog 18 = 8 := by kernel_rfl
@[go_sem] theorem zeroD_18 : zeroD Tryd.prog 18 = [.v (.pointer none)] := by kernel_rfl
@[go_sem] theorem fld_18_0 : fld Tryd.prog 18 0 = some (0, 17) := by kernel_rfl
@[go_sem] theorem okT_19 : okT Tryd.prog 19 = true := by kernel_rfl
@[go_sem] theorem szOf_19 : szOf Tryd.prog 19 = 1 := by kernel_rfl
@[go_sem] theorem aggT_19 : aggT Tryd.prog 19 = true := by kernel_rfl
@[go_sem] theorem undS_19 : (Tryd.prog.underlying 19).isSome = true := by kernel_rfl
@[go_sem] theorem infS_19 : (Tryd.prog.info? 19).isSome = true := by kernel_rfl
@[go_sem] theorem ifaceT_19 : ifaceT Tryd.prog 19 = false := by kernel_rfl
@[go_sem] theorem ptrT_19 : ptrT Tryd.prog 19 = false := by kernel_rfl
@[go_sem] theorem zeroT_19 : zeroT Tryd.prog 19 = true := by kernel_rfl
@[go_sem] theorem zeroOk_19 : zeroOk Tryd.prog 19 = true := by kernel_rfl
@[go_sem] theorem bytesOf_19 : bytesOf Tryd.prog 19 = 8 := by kernel_rfl
@[go_sem] theorem zeroD_19 : zeroD Tryd.prog 19 = [.v (.pointer none)] := by kernel_rfl
@[go_sem] theorem fld_19_0 : fld Tryd.prog 19 0 = some (0, 17) := by kernel_rfl
@[go_sem] theorem okT_20 : okT Tryd.prog 20 = true := by kernel_rfl
@[go_sem] theorem szOf_20 : szOf Tryd.prog 20 = 1 := by kernel_rfl
@[go_sem] theorem aggT_20 : aggT Tryd.prog 20 = false := by kernel_rfl
@[go_sem] theorem undS_20 : (Tryd.prog.underlying 20).isSome = true := by kernel_rfl
@[go_sem] theorem infS_20 : (Tryd.prog.info? 20).isSome = true := by kernel_rfl
@[go_sem] theorem ifaceT_20 : ifaceT Tryd.prog 20 = true := by kernel_rfl
@[go_sem] theorem ptrT_20 : ptrT Tryd.prog 20 = false := by kernel_rfl
@[go_sem] theorem zeroT_20 : zeroT Tryd.prog 20 = true := by kernel_rfl
@[go_sem] theorem zeroOk_20 : zeroOk Tryd.prog 20 = true := by kernel_rfl
@[go_sem] theorem bytesOf_20 : bytesOf Tryd.prog 20 = 16 := by kernel_rfl
@[go_sem] theorem zeroD_20 : zeroD Tryd.prog 20 = [.v .nilIface] := by kernel_rfl
@[go_sem] theorem okT_21 : okT Tryd.prog 21 = true := by kernel_rfl
@[go_sem] theorem szOf_21 : szOf Tryd.prog 21 = 1 := by kernel_rfl
@[go_sem] theorem aggT_21 : aggT Tryd.prog 21 = false := by kernel_rfl
@[go_sem] theorem undS_21 : (Tryd.prog.underlying 21).isSome = true := by kernel_rfl
@[go_sem] theorem infS_21 : (Tryd.prog.info? 21).isSome = true := by kernel_rfl
@[go_sem] theorem ifaceT_21 : ifaceT Tryd.prog 21 = false := by kernel_rfl
@[go_sem] theorem ptrT_21 : ptrT Tryd.prog 21 = false := by kernel_rfl
@[go_sem] theorem zeroT_21 : zeroT Tryd.prog 21 = true := by kernel_rfl
@[go_sem] theorem zeroOk_21 : zeroOk Tryd.prog 21 = true := by kernel_rfl
@[go_sem] theorem bytesOf_21 : bytesOf Tryd.prog 21 = 4 := by kernel_rfl
@[go_sem] theorem zeroD_21 : zeroD Tryd.prog 21 = [.v (.int .i32 0)] := by kernel_rfl
@[go_sem] theorem okT_22 : okT Tryd.prog 22 = true := by kernel_rfl
@[go_sem] theorem szOf_22 : szOf Tryd.prog 22 = 1 := by kernel_rfl
@[go_sem] theorem aggT_22 : aggT Tryd.prog 22 = false := by kernel_rfl
@[go_sem] theorem undS_22 : (Tryd.prog.underlying 22).isSome = true := by kernel_rfl
@[go_sem] theorem infS_22 : (Tryd.prog.info? 22).isSome = true := by kernel_rfl
@[go_sem] theorem ifaceT_22 : ifaceT Tryd.prog 22 = false := by kernel_rfl
@[go_sem] theorem ptrT_22 : ptrT Tryd.prog 22 = false := by kernel_rfl
@[go_sem] theorem zeroT_22 : zeroT Tryd.prog 22 = true := by kernel_rfl
@[go_sem] theorem zeroOk_22 : zeroOk Tryd.prog 22 = true := by kernel_rfl
@[go_sem] theorem bytesOf_22 : bytesOf Tryd.prog 22 = 8 := by kernel_rfl
@[go_sem] theorem zeroD_22 : zeroD Tryd.prog 22 = [.v (.int .u64 0)] := by kernel_rfl
@[go_sem] theorem okT_23 : okT Tryd.prog 23 = true := by kernel_rfl
@[go_sem] theorem szOf_23 : szOf Tryd.prog 23 = 1 := by kernel_rfl
@[go_sem] theorem aggT_23 : aggT Tryd.prog 23 = false := by kernel_rfl
@[go_sem] theorem undS_23 : (Tryd.prog.underlying 23).isSome = true := by kernel_rfl
@[go_sem] theorem infS_23 : (Tryd.prog.info? 23).isSome = true := by kernel_rfl
@[go_sem] theorem ifaceT_23 : ifaceT Tryd.prog 23 = false := by kernel_rfl
@[go_sem] theorem ptrT_23 : ptrT Tryd.prog 23 = true := by kernel_rfl
@[go_sem] theorem zeroT_23 : zeroT Tryd.prog 23 = true := by kernel_rfl
@[go_sem] theorem zeroOk_23 : zeroOk Tryd.prog 23 = true := by kernel_rfl
@[go_sem] theorem bytesOf_23 : bytesOf Tryd.prog 23 = 8 := by kernel_rfl
@[go_sem] theorem zeroD_23 : zeroD Tryd.prog 23 = [.v (.pointer none)] := by kernel_rfl
@[go_sem] theorem okT_25 : okT Tryd.prog 25 = true := by kernel_rfl
@[go_sem] theorem szOf_25 : szOf Tryd.prog 25 = 1 := by kernel_rfl
@[go_sem] theorem aggT_25 : aggT Tryd.prog 25 = false := by kernel_rfl
@[go_sem] theorem undS_25 : (Tryd.prog.underlying 25).isSome = true := by kernel_rfl
@[go_sem] theorem infS_25 : (Tryd.prog.info? 25).isSome = true := by kernel_rfl
@[go_sem] theorem ifaceT_25 : ifaceT Tryd.prog 25 = false := by kernel_rfl
@[go_sem] theorem ptrT_25 : ptrT Tryd.prog 25 = false := by kernel_rfl
@[go_sem] theorem zeroT_25 : zeroT Tryd.prog 25 = true := by kernel_rfl
@[go_sem] theorem zeroOk_25 : zeroOk Tryd.prog 25 = true := by kernel_rfl
@[go_sem] theorem bytesOf_25 : bytesOf Tryd.prog 25 = 8 := by kernel_rfl
@[go_sem] theorem zeroD_25 : zeroD Tryd.prog 25 = [.v (.int .i64 0)] := by kernel_rfl
@[go_sem] theorem okT_28 : okT Tryd.prog 28 = true := by kernel_rfl
@[go_sem] theorem szOf_28 : szOf Tryd.prog 28 = 1 := by kernel_rfl
@[go_sem] theorem aggT_28 : aggT Tryd.prog 28 = false := by kernel_rfl
@[go_sem] theorem undS_28 : (Tryd.prog.underlying 28).isSome = true := by kernel_rfl
@[go_sem] theorem infS_28 : (Tryd.prog.info? 28).isSome = true := by kernel_rfl
@[go_sem] theorem ifaceT_28 : ifaceT Tryd.prog 28 = false := by kernel_rfl
@[go_sem] theorem ptrT_28 : ptrT Tryd.prog 28 = false := by kernel_rfl
@[go_sem] theorem zeroT_28 : zeroT Tryd.prog 28 = true := by kernel_rfl
@[go_sem] theorem zeroOk_28 : zeroOk Tryd.prog 28 = true := by kernel_rfl
@[go_sem] theorem bytesOf_28 : bytesOf Tryd.prog 28 = 8 := by kernel_rfl
@[go_sem] theorem zeroD_28 : zeroD Tryd.prog 28 = [.v .nilFunc] := by kernel_rfl
@[go_sem] theorem okT_30 : okT Tryd.prog 30 = true := by kernel_rfl
@[go_sem] theorem szOf_30 : szOf Tryd.prog 30 = 1 := by kernel_rfl
@[go_sem] theorem aggT_30 : aggT Tryd.prog 30 = false := by kernel_rfl
@[go_sem] theorem undS_30 : (Tryd.prog.underlying 30).isSome = true := by kernel_rfl
@[go_sem] theorem infS_30 : (Tryd.prog.info? 30).isSome = true := by kernel_rfl
@[go_sem] theorem ifaceT_30 : ifaceT Tryd.prog 30 = false := by kernel_rfl
@[go_sem] theorem ptrT_30 : ptrT Tryd.prog 30 = false := by kernel_rfl
@[go_sem] theorem zeroT_30 : zeroT Tryd.prog 30 = true := by kernel_rfl
@[go_sem] theorem zeroOk_30 : zeroOk Tryd.prog 30 = true := by kernel_rfl
@[go_sem] theorem bytesOf_30 : bytesOf Tryd.prog 30 = 24 := by kernel_rfl
@[go_sem] theorem zeroD_30 : zeroD Tryd.prog 30 = [.sl .full []] := by kernel_rfl
@[go_sem] theorem elT_30 : elT Tryd.prog 30 = some 5 := by kernel_rfl
@[go_sem] theorem bul_30 (own : Own) (es : List D) (ty : TypeId) (cs : Array Bool) : dbuiltin Tryd.prog .len #[30] ty cs [.sl own es] = some (True, .v (.int .i64 es.length)) := bu_len own es _ ty cs elT_30
@[go_sem] theorem okT_34 : okT Tryd.prog 34 = true := by kernel_rfl
@[go_sem] theorem szOf_34 : szOf Tryd.prog 34 = 1 := by kernel_rfl
@[go_sem] theorem aggT_34 : aggT Tryd.prog 34 = false := by kernel_rfl
@[go_sem] theorem undS_34 : (Tryd.prog.underlying 34).isSome = true := by kernel_rfl
@[go_sem] theorem infS_34 : (Tryd.prog.info? 34).isSome = true := by kernel_rfl
@[go_sem] theorem ifaceT_34 : ifaceT Tryd.prog 34 = true := by kernel_rfl
@[go_sem] theorem ptrT_34 : ptrT Tryd.prog 34 = false := by kernel_rfl
@[go_sem] theorem zeroT_34 : zeroT Tryd.prog 34 = true := by kernel_rfl
@[go_sem] theorem zeroOk_34 : zeroOk Tryd.prog 34 = true := by kernel_rfl
@[go_sem] theorem bytesOf_34 : bytesOf Tryd.prog 34 = 16 := by kernel_rfl
@[go_sem] theorem zeroD_34 : zeroD Tryd.prog 34 = [.v .nilIface] := by kernel_rfl
@[go_sem] theorem okT_35 : okT Tryd.prog 35 = true := by kernel_rfl
@[go_sem] theorem szOf_35 : szOf Tryd.prog 35 = 1 := by kernel_rfl
@[go_sem] theorem aggT_35 : aggT Tryd.prog 35 = false := by kernel_rfl
@[go_sem] theorem undS_35 : (Tryd.prog.underlying 35).isSome = true := by kernel_rfl
@[go_sem] theorem infS_35 : (Tryd.prog.info? 35).isSome = true := by kernel_rfl
@[go_sem] theorem ifaceT_35 : ifaceT Tryd.prog 35 = true := by kernel_rfl
@[go_sem] theorem ptrT_35 : ptrT Tryd.prog 35 = false := by kernel_rfl
@[go_sem] theorem zeroT_35 : zeroT Tryd.prog 35 = true := by kernel_rfl
@[go_sem] theorem zeroOk_35 : zeroOk Tryd.prog 35 = true := by kernel_rfl
@[go_sem] theorem bytesOf_35 : bytesOf Tryd.prog 35 = 16 := by kernel_rfl
@[go_sem] theorem zeroD_35 : zeroD Tryd.prog 35 = [.v .nilIface] := by kernel_rfl
@[go_sem] theorem okT_37 : okT Tryd.prog 37 = true := by kernel_rfl
@[go_sem] theorem szOf_37 : szOf Tryd.prog 37 = 1 := by kernel_rfl
@[go_sem] theorem aggT_37 : aggT Tryd.prog 37 = false := by kernel_rfl
@[go_sem] theorem undS_37 : (Tryd.prog.underlying 37).isSome = true := by kernel_rfl
@[go_sem] theorem infS_37 : (Tryd.prog.info? 37).isSome = true := by kernel_rfl
@[go_sem] theorem ifaceT_37 : ifaceT Tryd.prog 37 = false := by kernel_rfl
@[go_sem] theorem ptrT_37 : ptrT Tryd.prog 37 = false := by kernel_rfl
@[go_sem] theorem zeroT_37 : zeroT Tryd.prog 37 = true := by kernel_rfl
@[go_sem] theorem zeroOk_37 : zeroOk Tryd.prog 37 = true := by kernel_rfl
@[go_sem] theorem bytesOf_37 : bytesOf Tryd.prog 37 = 8 := by kernel_rfl
@[go_sem] theorem zeroD_37 : zeroD Tryd.prog 37 = [.v .nilFunc] := by kernel_rfl
@[go_sem] theorem okT_38 : okT Tryd.prog 38 = true := by kernel_rfl
@[go_sem] theorem szOf_38 : szOf Tryd.prog 38 = 1 := by kernel_rfl
@[go_sem] theorem aggT_38 : aggT Tryd.prog 38 = false := by kernel_rfl
@[go_sem] theorem undS_38 : (Tryd.prog.underlying 38).isSome = true := by kernel_rfl
@[go_sem] theorem infS_38 : (Tryd.prog.info? 38).isSome = true := by kernel_rfl
@[go_sem] theorem ifaceT_38 : ifaceT Tryd.prog 38 = false := by kernel_rfl
@[go_sem] theorem ptrT_38 : ptrT Tryd.prog 38 = false := by kernel_rfl
@[go_sem] theorem zeroT_38 : zeroT Tryd.prog 38 = true := by kernel_rfl
@[go_sem] theorem zeroOk_38 : zeroOk Tryd.prog 38 = true := by kernel_rfl
@[go_sem] theorem bytesOf_38 : bytesOf Tryd.prog 38 = 24 := by kernel_rfl
@[go_sem] theorem zeroD_38 : zeroD Tryd.prog 38 = [.sl .full []] := by kernel_rfl
@[go_sem] theorem elT_38 : elT Tryd.prog 38 = some 45 := by kernel_rfl
@[go_sem] theorem bul_38 (own : Own) (es : List D) (ty : TypeId) (cs : Array Bool) : dbuiltin Tryd.prog .len #[38] ty cs [.sl own es] = some (True, .v (.int .i64 es.length)) := bu_len own es _ ty cs elT_38
@[go_sem] theorem okT_41 : okT Tryd.prog 41 = true := by kernel_rfl
@[go_sem] theorem szOf_41 : szOf Tryd.prog 41 = 1 := by kernel_rfl
@[go_sem] theorem aggT_41 : aggT Tryd.prog 41 = false := by kernel_rfl
@[go_sem] theorem undS_41 : (Tryd.prog.underlying 41).isSome = true := by kernel_rfl
@[go_sem] theorem infS_41 : (Tryd.prog.info? 41).isSome = true := by kernel_rfl
@[go_sem] theorem ifaceT_41 : ifaceT Tryd.prog 41 = false := by kernel_rfl
@[go_sem] theorem ptrT_41 : ptrT Tryd.prog 41 = true := by kernel_rfl
@[go_sem] theorem zeroT_41 : zeroT Tryd.prog 41 = true := by kernel_rfl
@[go_sem] theorem zeroOk_41 : zeroOk Tryd.prog 41 = true := by kernel_rfl
@[go_sem] theorem bytesOf_41 : bytesOf Tryd.prog 41 = 8 := by kernel_rfl
@[go_sem] theorem zeroD_41 : zeroD Tryd.prog 41 = [.v (.pointer none)] := by kernel_rfl
@[go_sem] theorem okT_43 : okT Tryd.prog 43 = true := by kernel_rfl
@[go_sem] theorem szOf_43 : szOf Tryd.prog 43 = 4 := by kernel_rfl
@[go_sem] theorem aggT_43 : aggT Tryd.prog 43 = true := by kernel_rfl
@[go_sem] theorem undS_43 : (Tryd.prog.underlying 43).isSome = true := by kernel_rfl
@[go_sem] theorem infS_43 : (Tryd.prog.info? 43).isSome = true := by kernel_rfl
@[go_sem] theorem ifaceT_43 : ifaceT Tryd.prog 43 = false := by kernel_rfl
@[go_sem] theorem ptrT_43 : ptrT Tryd.prog 43 = false := by kernel_rfl
@[go_sem] theorem zeroT_43 : zeroT Tryd.prog 43 = true := by kernel_rfl
@[go_sem] theorem zeroOk_43 : zeroOk Tryd.prog 43 = true := by kernel_rfl
@[go_sem] theorem bytesOf_43 : bytesOf Tryd.prog 43 = 48 := by kernel_rfl
@[go_sem] theorem zeroD_43 : zeroD Tryd.prog 43 = [.sl .full [], .v (.int .i64 0), .v (.int .i64 0), .v (.int .i64 0)] := by kernel_rfl
@[go_sem] theorem fld_43_0 : fld Tryd.prog 43 0 = some (0, 30) := by kernel_rfl
@[go_sem] theorem fld_43_1 : fld Tryd.prog 43 1 = some (1, 3) := by kernel_rfl
@[go_sem] theorem fld_43_2 : fld Tryd.prog 43 2 = some (2, 3) := by kernel_rfl
@[go_sem] theorem fld_43_3 : fld Tryd.prog 43 3 = some (3, 3) := by kernel_rfl
noncomputable def pl43 : Nat → Option (Nat × Nat) := (placeT Tryd.prog 43).getD fun _ => none
@[go_sem] theorem placeT_43 : placeT Tryd.prog 43 = some pl43 := by kernel_rfl
@[go_sem] theorem pl_43_0 : pl43 0 = some (0, 1) := by kernel_rfl
@[go_sem] theorem pl_43_1 : pl43 1 = some (1, 1) := by kernel_rfl
@[go_sem] theorem pl_43_2 : pl43 2 = some (2, 1) := by kernel_rfl
@[go_sem] theorem pl_43_3 : pl43 3 = some (3, 1) := by kernel_rfl
@[go_sem] theorem okT_45 : okT Tryd.prog 45 = true := by kernel_rfl
@[go_sem] theorem szOf_45 : szOf Tryd.prog 45 = 4 := by kernel_rfl
@[go_sem] theorem aggT_45 : aggT Tryd.prog 45 = true := by kernel_rfl
@[go_sem] theorem undS_45 : (Tryd.prog.underlying 45).isSome = true := by kernel_rfl
@[go_sem] theorem infS_45 : (Tryd.prog.info? 45).isSome = true := by kernel_rfl
@[go_sem] theorem ifaceT_45 : ifaceT Tryd.prog 45 = false := by kernel_rfl
@[go_sem] theorem ptrT_45 : ptrT Tryd.prog 45 = false := by kernel_rfl
@[go_sem] theorem zeroT_45 : zeroT Tryd.prog 45 = true := by kernel_rfl
@[go_sem] theorem zeroOk_45 : zeroOk Tryd.prog 45 = true := by kernel_rfl
@[go_sem] theorem bytesOf_45 : bytesOf Tryd.prog 45 = 48 := by kernel_rfl
@[go_sem] theorem zeroD_45 : zeroD Tryd.prog 45 = [.v (.int .i64 0), .v (.int .u64 0), .sl .full [], .v (.int .i64 0)] := by kernel_rfl
@[go_sem] theorem fld_45_0 : fld Tryd.prog 45 0 = some (0, 3) := by kernel_rfl
@[go_sem] theorem fld_45_1 : fld Tryd.prog 45 1 = some (1, 22) := by kernel_rfl
@[go_sem] theorem fld_45_2 : fld Tryd.prog 45 2 = some (2, 30) := by kernel_rfl
@[go_sem] theorem fld_45_3 : fld Tryd.prog 45 3 = some (3, 3) := by kernel_rfl
@[go_sem] theorem okT_50 : okT Tryd.prog 50 = true := by kernel_rfl
@[go_sem] theorem szOf_50 : szOf Tryd.prog 50 = 1 := by kernel_rfl
@[go_sem] theorem aggT_50 : aggT Tryd.prog 50 = false := by kernel_rfl
@[go_sem] theorem undS_50 : (Tryd.prog.underlying 50).isSome = true := by kernel_rfl
@[go_sem] theorem infS_50 : (Tryd.prog.info? 50).isSome = true := by kernel_rfl
@[go_sem] theorem ifaceT_50 : ifaceT Tryd.prog 50 = false := by kernel_rfl
@[go_sem] theorem ptrT_50 : ptrT Tryd.prog 50 = false := by kernel_rfl
@[go_sem] theorem zeroT_50 : zeroT Tryd.prog 50 = true := by kernel_rfl
@[go_sem] theorem zeroOk_50 : zeroOk Tryd.prog 50 = true := by kernel_rfl
@[go_sem] theorem bytesOf_50 : bytesOf Tryd.prog 50 = 24 := by kernel_rfl
@[go_sem] theorem zeroD_50 : zeroD Tryd.prog 50 = [.sl .full []] := by kernel_rfl
@[go_sem] theorem elT_50 : elT Tryd.prog 50 = some 9 := by kernel_rfl
@[go_sem] theorem bul_50 (own : Own) (es : List D) (ty : TypeId) (cs : Array Bool) : dbuiltin Tryd.prog .len #[50] ty cs [.sl own es] = some (True, .v (.int .i64 es.length)) := bu_len own es _ ty cs elT_50
@[go_sem] theorem okT_51 : okT Tryd.prog 51 = true := by kernel_rfl
@[go_sem] theorem szOf_51 : szOf Tryd.prog 51 = 1 := by kernel_rfl
@[go_sem] theorem aggT_51 : aggT Tryd.prog 51 = false := by kernel_rfl
@[go_sem] theorem undS_51 : (Tryd.prog.underlying 51).isSome = true := by kernel_rfl
@[go_sem] theorem infS_51 : (Tryd.prog.info? 51).isSome = true := by kernel_rfl
@[go_sem] theorem ifaceT_51 : ifaceT Tryd.prog 51 = false := by kernel_rfl
@[go_sem] theorem ptrT_51 : ptrT Tryd.prog 51 = false := by kernel_rfl
@[go_sem] theorem zeroT_51 : zeroT Tryd.prog 51 = true := by kernel_rfl
@[go_sem] theorem zeroOk_51 : zeroOk Tryd.prog 51 = true := by kernel_rfl
@[go_sem] theorem bytesOf_51 : bytesOf Tryd.prog 51 = 24 := by kernel_rfl
@[go_sem] theorem zeroD_51 : zeroD Tryd.prog 51 = [.sl .full []] := by kernel_rfl
@[go_sem] theorem elT_51 : elT Tryd.prog 51 = some 53 := by kernel_rfl
@[go_sem] theorem bul_51 (own : Own) (es : List D) (ty : TypeId) (cs : Array Bool) : dbuiltin Tryd.prog .len #[51] ty cs [.sl own es] = some (True, .v (.int .i64 es.length)) := bu_len own es _ ty cs elT_51
@[go_sem] theorem okT_53 : okT Tryd.prog 53 = true := by kernel_rfl
@[go_sem] theorem szOf_53 : szOf Tryd.prog 53 = 3 := by kernel_rfl
@[go_sem] theorem aggT_53 : aggT Tryd.prog 53 = true := by kernel_rfl
@[go_sem] theorem undS_53 : (Tryd.prog.underlying 53).isSome = true := by kernel_rfl
@[go_sem] theorem infS_53 : (Tryd.prog.info? 53).isSome = true := by kernel_rfl
@[go_sem] theorem ifaceT_53 : ifaceT Tryd.prog 53 = false := by kernel_rfl
@[go_sem] theorem ptrT_53 : ptrT Tryd.prog 53 = false := by kernel_rfl
@[go_sem] theorem zeroT_53 : zeroT Tryd.prog 53 = true := by kernel_rfl
@[go_sem] theorem zeroOk_53 : zeroOk Tryd.prog 53 = true := by kernel_rfl
@[go_sem] theorem bytesOf_53 : bytesOf Tryd.prog 53 = 56 := by kernel_rfl
@[go_sem] theorem zeroD_53 : zeroD Tryd.prog 53 = [.v (.int .i64 0), .sl .full [], .sl .full []] := by kernel_rfl
@[go_sem] theorem fld_53_0 : fld Tryd.prog 53 0 = some (0, 3) := by kernel_rfl
@[go_sem] theorem fld_53_1 : fld Tryd.prog 53 1 = some (1, 50) := by kernel_rfl
@[go_sem] theorem fld_53_2 : fld Tryd.prog 53 2 = some (2, 51) := by kernel_rfl
@[go_sem] theorem okT_54 : okT Tryd.prog 54 = true := by kernel_rfl
@[go_sem] theorem szOf_54 : szOf Tryd.prog 54 = 1 := by kernel_rfl
@[go_sem] theorem aggT_54 : aggT Tryd.prog 54 = false := by kernel_rfl
@[go_sem] theorem undS_54 : (Tryd.prog.underlying 54).isSome = true := by kernel_rfl
@[go_sem] theorem infS_54 : (Tryd.prog.info? 54).isSome = true := by kernel_rfl
@[go_sem] theorem ifaceT_54 : ifaceT Tryd.prog 54 = false := by kernel_rfl
@[go_sem] theorem ptrT_54 : ptrT Tryd.prog 54 = false := by kernel_rfl
@[go_sem] theorem zeroT_54 : zeroT Tryd.prog 54 = true := by kernel_rfl
@[go_sem] theorem zeroOk_54 : zeroOk Tryd.prog 54 = true := by kernel_rfl
@[go_sem] theorem bytesOf_54 : bytesOf Tryd.prog 54 = 8 := by kernel_rfl
@[go_sem] theorem zeroD_54 : zeroD Tryd.prog 54 = [.v .nilFunc] := by kernel_rfl
@[go_sem] theorem okT_64 : okT Tryd.prog 64 = true := by kernel_rfl
@[go_sem] theorem szOf_64 : szOf Tryd.prog 64 = 3 := by kernel_rfl
@[go_sem] theorem aggT_64 : aggT Tryd.prog 64 = true := by kernel_rfl
@[go_sem] theorem undS_64 : (Tryd.prog.underlying 64).isSome = true := by kernel_rfl
@[go_sem] theorem infS_64 : (Tryd.prog.info? 64).isSome = true := by kernel_rfl
@[go_sem] theorem ifaceT_64 : ifaceT Tryd.prog 64 = false := by kernel_rfl
@[go_sem] theorem ptrT_64 : ptrT Tryd.prog 64 = false := by kernel_rfl
@[go_sem] theorem zeroT_64 : zeroT Tryd.prog 64 = true := by kernel_rfl
@[go_sem] theorem zeroOk_64 : zeroOk Tryd.prog 64 = true := by kernel_rfl
@[go_sem] theorem bytesOf_64 : bytesOf Tryd.prog 64 = 48 := by kernel_rfl
@[go_sem] theorem zeroD_64 : zeroD Tryd.prog 64 = [.sl .full [], .v (.int .i64 0), .v .nilIface] := by kernel_rfl
@[go_sem] theorem fld_64_0 : fld Tryd.prog 64 0 = some (0, 30) := by kernel_rfl
@[go_sem] theorem fld_64_1 : fld Tryd.prog 64 1 = some (1, 3) := by kernel_rfl
@[go_sem] theorem fld_64_2 : fld Tryd.prog 64 2 = some (2, 35) := by kernel_rfl
noncomputable def pl64 : Nat → Option (Nat × Nat) := (placeT Tryd.prog 64).getD fun _ => none
@[go_sem] theorem placeT_64 : placeT Tryd.prog 64 = some pl64 := by kernel_rfl
@[go_sem] theorem pl_64_0 : pl64 0 = some (0, 1) := by kernel_rfl
@[go_sem] theorem pl_64_1 : pl64 1 = some (1, 1) := by kernel_rfl
@[go_sem] theorem pl_64_2 : pl64 2 = some (2, 1) := by kernel_rfl
@[go_sem] theorem okT_67 : okT Tryd.prog 67 = true := by kernel_rfl
@[go_sem] theorem szOf_67 : szOf Tryd.prog 67 = 1 := by kernel_rfl
@[go_sem] theorem aggT_67 : aggT Tryd.prog 67 = false := by kernel_rfl
@[go_sem] theorem undS_67 : (Tryd.prog.underlying 67).isSome = true := by kernel_rfl
@[go_sem] theorem infS_67 : (Tryd.prog.info? 67).isSome = true := by kernel_rfl
@[go_sem] theorem ifaceT_67 : ifaceT Tryd.prog 67 = false := by kernel_rfl
@[go_sem] theorem ptrT_67 : ptrT Tryd.prog 67 = false := by kernel_rfl
@[go_sem] theorem zeroT_67 : zeroT Tryd.prog 67 = true := by kernel_rfl
@[go_sem] theorem zeroOk_67 : zeroOk Tryd.prog 67 = true := by kernel_rfl
@[go_sem] theorem bytesOf_67 : bytesOf Tryd.prog 67 = 8 := by kernel_rfl
@[go_sem] theorem zeroD_67 : zeroD Tryd.prog 67 = [.v .nilFunc] := by kernel_rfl
@[go_sem] theorem okT_73 : okT Tryd.prog 73 = true := by kernel_rfl
@[go_sem] theorem szOf_73 : szOf Tryd.prog 73 = 1 := by kernel_rfl
@[go_sem] theorem aggT_73 : aggT Tryd.prog 73 = true := by kernel_rfl
@[go_sem] theorem undS_73 : (Tryd.prog.underlying 73).isSome = true := by kernel_rfl
@[go_sem] theorem infS_73 : (Tryd.prog.info? 73).isSome = true := by kernel_rfl
@[go_sem] theorem ifaceT_73 : ifaceT Tryd.prog 73 = false := by kernel_rfl
@[go_sem] theorem ptrT_73 : ptrT Tryd.prog 73 = false := by kernel_rfl
@[go_sem] theorem zeroT_73 : zeroT Tryd.prog 73 = true := by kernel_rfl
@[go_sem] theorem zeroOk_73 : zeroOk Tryd.prog 73 = true := by kernel_rfl
@[go_sem] theorem bytesOf_73 : bytesOf Tryd.prog 73 = 24 := by kernel_rfl
@[go_sem] theorem zeroD_73 : zeroD Tryd.prog 73 = [.sl .full []] := by kernel_rfl
@[go_sem] theorem fld_73_0 : fld Tryd.prog 73 0 = some (0, 30) := by kernel_rfl
@[go_sem] theorem okT_79 : okT Tryd.prog 79 = true := by kernel_rfl
@[go_sem] theorem szOf_79 : szOf Tryd.prog 79 = 1 := by kernel_rfl
@[go_sem] theorem aggT_79 : aggT Tryd.prog 79 = false := by kernel_rfl
@[go_sem] theorem undS_79 : (Tryd.prog.underlying 79).isSome = true := by kernel_rfl
@[go_sem] theorem infS_79 : (Tryd.prog.info? 79).isSome = true := by kernel_rfl
@[go_sem] theorem ifaceT_79 : ifaceT Tryd.prog 79 = false := by kernel_rfl
@[go_sem] theorem ptrT_79 : ptrT Tryd.prog 79 = false := by kernel_rfl
@[go_sem] theorem zeroT_79 : zeroT Tryd.prog 79 = true := by kernel_rfl
@[go_sem] theorem zeroOk_79 : zeroOk Tryd.prog 79 = true := by kernel_rfl
@[go_sem] theorem bytesOf_79 : bytesOf Tryd.prog 79 = 24 := by kernel_rfl
@[go_sem] theorem zeroD_79 : zeroD Tryd.prog 79 = [.sl .full []] := by kernel_rfl
@[go_sem] theorem elT_79 : elT Tryd.prog 79 = some 22 := by kernel_rfl
@[go_sem] theorem bul_79 (own : Own) (es : List D) (ty : TypeId) (cs : Array Bool) : dbuiltin Tryd.prog .len #[79] ty cs [.sl own es] = some (True, .v (.int .i64 es.length)) := bu_len own es _ ty cs elT_79
@[go_sem] theorem okT_80 : okT Tryd.prog 80 = true := by kernel_rfl
@[go_sem] theorem szOf_80 : szOf Tryd.prog 80 = 1 := by kernel_rfl
@[go_sem] theorem aggT_80 : aggT Tryd.prog 80 = false := by kernel_rfl
@[go_sem] theorem undS_80 : (Tryd.prog.underlying 80).isSome = true := by kernel_rfl
@[go_sem] theorem infS_80 : (Tryd.prog.info? 80).isSome = true := by kernel_rfl
@[go_sem] theorem ifaceT_80 : ifaceT Tryd.prog 80 = false := by kernel_rfl
@[go_sem] theorem ptrT_80 : ptrT Tryd.prog 80 = false := by kernel_rfl
@[go_sem] theorem zeroT_80 : zeroT Tryd.prog 80 = true := by kernel_rfl
@[go_sem] theorem zeroOk_80 : zeroOk Tryd.prog 80 = true := by kernel_rfl
@[go_sem] theorem bytesOf_80 : bytesOf Tryd.prog 80 = 24 := by kernel_rfl
@[go_sem] theorem zeroD_80 : zeroD Tryd.prog 80 = [.sl .full []] := by kernel_rfl
@[go_sem] theorem elT_80 : elT Tryd.prog 80 = some 82 := by kernel_rfl
@[go_sem] theorem bul_80 (own : Own) (es : List D) (ty : TypeId) (cs : Array Bool) : dbuiltin Tryd.prog .len #[80] ty cs [.sl own es] = some (True, .v (.int .i64 es.length)) := bu_len own es _ ty cs elT_80
@[go_sem] theorem okT_82 : okT Tryd.prog 82 = true := by kernel_rfl
@[go_sem] theorem szOf_82 : szOf Tryd.prog 82 = 6 := by kernel_rfl
@[go_sem] theorem aggT_82 : aggT Tryd.prog 82 = true := by kernel_rfl
@[go_sem] theorem undS_82 : (Tryd.prog.underlying 82).isSome = true := by kernel_rfl
@[go_sem] theorem infS_82 : (Tryd.prog.info? 82).isSome = true := by kernel_rfl
@[go_sem] theorem ifaceT_82 : ifaceT Tryd.prog 82 = false := by kernel_rfl
@[go_sem] theorem ptrT_82 : ptrT Tryd.prog 82 = false := by kernel_rfl
@[go_sem] theorem zeroT_82 : zeroT Tryd.prog 82 = true := by kernel_rfl
@[go_sem] theorem zeroOk_82 : zeroOk Tryd.prog 82 = true := by kernel_rfl
@[go_sem] theorem bytesOf_82 : bytesOf Tryd.prog 82 = 104 := by kernel_rfl
@[go_sem] theorem zeroD_82 : zeroD Tryd.prog 82 = [.v (.int .i64 0), .v (.int .i64 0), .v (.string ⟨#[]⟩), .sl .full [], .sl .full [], .sl .full []] := by kernel_rfl
@[go_sem] theorem fld_82_0 : fld Tryd.prog 82 0 = some (0, 3) := by kernel_rfl
@[go_sem] theorem fld_82_1 : fld Tryd.prog 82 1 = some (1, 3) := by kernel_rfl
@[go_sem] theorem fld_82_2 : fld Tryd.prog 82 2 = some (2, 9) := by kernel_rfl
@[go_sem] theorem fld_82_3 : fld Tryd.prog 82 3 = some (3, 50) := by kernel_rfl
@[go_sem] theorem fld_82_4 : fld Tryd.prog 82 4 = some (4, 79) := by kernel_rfl
@[go_sem] theorem fld_82_5 : fld Tryd.prog 82 5 = some (5, 80) := by kernel_rfl
@[go_sem] theorem okT_85 : okT Tryd.prog 85 = true := by kernel_rfl
@[go_sem] theorem szOf_85 : szOf Tryd.prog 85 = 1 := by kernel_rfl
@[go_sem] theorem aggT_85 : aggT Tryd.prog 85 = false := by kernel_rfl
@[go_sem] theorem undS_85 : (Tryd.prog.underlying 85).isSome = true := by kernel_rfl
@[go_sem] theorem infS_85 : (Tryd.prog.info? 85).isSome = true := by kernel_rfl
@[go_sem] theorem ifaceT_85 : ifaceT Tryd.prog 85 = false := by kernel_rfl
@[go_sem] theorem ptrT_85 : ptrT Tryd.prog 85 = true := by kernel_rfl
@[go_sem] theorem zeroT_85 : zeroT Tryd.prog 85 = true := by kernel_rfl
@[go_sem] theorem zeroOk_85 : zeroOk Tryd.prog 85 = true := by kernel_rfl
@[go_sem] theorem bytesOf_85 : bytesOf Tryd.prog 85 = 8 := by kernel_rfl
@[go_sem] theorem zeroD_85 : zeroD Tryd.prog 85 = [.v (.pointer none)] := by kernel_rfl
@[go_sem] theorem okT_88 : okT Tryd.prog 88 = true := by kernel_rfl
@[go_sem] theorem szOf_88 : szOf Tryd.prog 88 = 1 := by kernel_rfl
@[go_sem] theorem aggT_88 : aggT Tryd.prog 88 = false := by kernel_rfl
@[go_sem] theorem undS_88 : (Tryd.prog.underlying 88).isSome = true := by kernel_rfl
@[go_sem] theorem infS_88 : (Tryd.prog.info? 88).isSome = true := by kernel_rfl
@[go_sem] theorem ifaceT_88 : ifaceT Tryd.prog 88 = false := by kernel_rfl
@[go_sem] theorem ptrT_88 : ptrT Tryd.prog 88 = true := by kernel_rfl
@[go_sem] theorem zeroT_88 : zeroT Tryd.prog 88 = true := by kernel_rfl
@[go_sem] theorem zeroOk_88 : zeroOk Tryd.prog 88 = true := by kernel_rfl
@[go_sem] theorem bytesOf_88 : bytesOf Tryd.prog 88 = 8 := by kernel_rfl
@[go_sem] theorem zeroD_88 : zeroD Tryd.prog 88 = [.v (.pointer none)] := by kernel_rfl
@[go_sem] theorem okT_91 : okT Tryd.prog 91 = true := by kernel_rfl
@[go_sem] theorem szOf_91 : szOf Tryd.prog 91 = 1 := by kernel_rfl
@[go_sem] theorem aggT_91 : aggT Tryd.prog 91 = false := by kernel_rfl
@[go_sem] theorem undS_91 : (Tryd.prog.underlying 91).isSome = true := by kernel_rfl
@[go_sem] theorem infS_91 : (Tryd.prog.info? 91).isSome = true := by kernel_rfl
@[go_sem] theorem ifaceT_91 : ifaceT Tryd.prog 91 = false := by kernel_rfl
@[go_sem] theorem ptrT_91 : ptrT Tryd.prog 91 = true := by kernel_rfl
@[go_sem] theorem zeroT_91 : zeroT Tryd.prog 91 = true := by kernel_rfl
@[go_sem] theorem zeroOk_91 : zeroOk Tryd.prog 91 = true := by kernel_rfl
@[go_sem] theorem bytesOf_91 : bytesOf Tryd.prog 91 = 8 := by kernel_rfl
@[go_sem] theorem zeroD_91 : zeroD Tryd.prog 91 = [.v (.pointer none)] := by kernel_rfl
@[go_sem] theorem okT_93 : okT Tryd.prog 93 = true := by kernel_rfl
@[go_sem] theorem szOf_93 : szOf Tryd.prog 93 = 2 := by kernel_rfl
@[go_sem] theorem aggT_93 : aggT Tryd.prog 93 = true := by kernel_rfl
@[go_sem] theorem undS_93 : (Tryd.prog.underlying 93).isSome = true := by kernel_rfl
@[go_sem] theorem infS_93 : (Tryd.prog.info? 93).isSome = true := by kernel_rfl
@[go_sem] theorem ifaceT_93 : ifaceT Tryd.prog 93 = false := by kernel_rfl
@[go_sem] theorem ptrT_93 : ptrT Tryd.prog 93 = false := by kernel_rfl
@[go_sem] theorem zeroT_93 : zeroT Tryd.prog 93 = true := by kernel_rfl
@[go_sem] theorem zeroOk_93 : zeroOk Tryd.prog 93 = true := by kernel_rfl
@[go_sem] theorem bytesOf_93 : bytesOf Tryd.prog 93 = 24 := by kernel_rfl
@[go_sem] theorem zeroD_93 : zeroD Tryd.prog 93 = [.v (.int .i64 0), .v .nilIface] := by kernel_rfl
@[go_sem] theorem fld_93_0 : fld Tryd.prog 93 0 = some (0, 3) := by kernel_rfl
@[go_sem] theorem fld_93_1 : fld Tryd.prog 93 1 = some (1, 35) := by kernel_rfl
noncomputable def pl93 : Nat → Option (Nat × Nat) := (placeT Tryd.prog 93).getD fun _ => none
@[go_sem] theorem placeT_93 : placeT Tryd.prog 93 = some pl93 := by kernel_rfl
@[go_sem] theorem pl_93_0 : pl93 0 = some (0, 1) := by kernel_rfl
@[go_sem] theorem pl_93_1 : pl93 1 = some (1, 1) := by kernel_rfl
@[go_sem] theorem okT_96 : okT Tryd.prog 96 = true := by kernel_rfl
@[go_sem] theorem szOf_96 : szOf Tryd.prog 96 = 1 := by kernel_rfl
@[go_sem] theorem aggT_96 : aggT Tryd.prog 96 = false := by kernel_rfl
@[go_sem] theorem undS_96 : (Tryd.prog.underlying 96).isSome = true := by kernel_rfl
@[go_sem] theorem infS_96 : (Tryd.prog.info? 96).isSome = true := by kernel_rfl
@[go_sem] theorem ifaceT_96 : ifaceT Tryd.prog 96 = false := by kernel_rfl
@[go_sem] theorem ptrT_96 : ptrT Tryd.prog 96 = false := by kernel_rfl
@[go_sem] theorem zeroT_96 : zeroT Tryd.prog 96 = true := by kernel_rfl
@[go_sem] theorem zeroOk_96 : zeroOk Tryd.prog 96 = true := by kernel_rfl
@[go_sem] theorem bytesOf_96 : bytesOf Tryd.prog 96 = 24 := by kernel_rfl
@[go_sem] theorem zeroD_96 : zeroD Tryd.prog 96 = [.sl .full []] := by kernel_rfl
@[go_sem] theorem elT_96 : elT Tryd.prog 96 = some 35 := by kernel_rfl
@[go_sem] theorem bul_96 (own : Own) (es : List D) (ty : TypeId) (cs : Array Bool) : dbuiltin Tryd.prog .len #[96] ty cs [.sl own es] = some (True, .v (.int .i64 es.length)) := bu_len own es _ ty cs elT_96
@[go_sem] theorem okT_101 : okT Tryd.prog 101 = true := by kernel_rfl
@[go_sem] theorem szOf_101 : szOf Tryd.prog 101 = 1 := by kernel_rfl
@[go_sem] theorem aggT_101 : aggT Tryd.prog 101 = false := by kernel_rfl
@[go_sem] theorem undS_101 : (Tryd.prog.underlying 101).isSome = true := by kernel_rfl
@[go_sem] theorem infS_101 : (Tryd.prog.info? 101).isSome = true := by kernel_rfl
@[go_sem] theorem ifaceT_101 : ifaceT Tryd.prog 101 = false := by kernel_rfl
@[go_sem] theorem ptrT_101 : ptrT Tryd.prog 101 = false := by kernel_rfl
@[go_sem] theorem zeroT_101 : zeroT Tryd.prog 101 = true := by kernel_rfl
@[go_sem] theorem zeroOk_101 : zeroOk Tryd.prog 101 = true := by kernel_rfl
@[go_sem] theorem bytesOf_101 : bytesOf Tryd.prog 101 = 8 := by kernel_rfl
@[go_sem] theorem zeroD_101 : zeroD Tryd.prog 101 = [.v .nilFunc] := by kernel_rfl
@[go_sem] theorem okT_103 : okT Tryd.prog 103 = true := by kernel_rfl
@[go_sem] theorem szOf_103 : szOf Tryd.prog 103 = 1 := by kernel_rfl
@[go_sem] theorem aggT_103 : aggT Tryd.prog 103 = false := by kernel_rfl
@[go_sem] theorem undS_103 : (Tryd.prog.underlying 103).isSome = true := by kernel_rfl
@[go_sem] theorem infS_103 : (Tryd.prog.info? 103).isSome = true := by kernel_rfl
@[go_sem] theorem ifaceT_103 : ifaceT Tryd.prog 103 = false := by kernel_rfl
@[go_sem] theorem ptrT_103 : ptrT Tryd.prog 103 = false := by kernel_rfl
@[go_sem] theorem zeroT_103 : zeroT Tryd.prog 103 = true := by kernel_rfl
@[go_sem] theorem zeroOk_103 : zeroOk Tryd.prog 103 = true := by kernel_rfl
@[go_sem] theorem bytesOf_103 : bytesOf Tryd.prog 103 = 8 := by kernel_rfl
@[go_sem] theorem zeroD_103 : zeroD Tryd.prog 103 = [.v .nilFunc] := by kernel_rfl
@[go_sem] theorem okT_104 : okT Tryd.prog 104 = true := by kernel_rfl
@[go_sem] theorem szOf_104 : szOf Tryd.prog 104 = 1 := by kernel_rfl
@[go_sem] theorem aggT_104 : aggT Tryd.prog 104 = false := by kernel_rfl
@[go_sem] theorem undS_104 : (Tryd.prog.underlying 104).isSome = true := by kernel_rfl
@[go_sem] theorem infS_104 : (Tryd.prog.info? 104).isSome = true := by kernel_rfl
@[go_sem] theorem ifaceT_104 : ifaceT Tryd.prog 104 = false := by kernel_rfl
@[go_sem] theorem ptrT_104 : ptrT Tryd.prog 104 = false := by kernel_rfl
@[go_sem] theorem zeroT_104 : zeroT Tryd.prog 104 = true := by kernel_rfl
@[go_sem] theorem zeroOk_104 : zeroOk Tryd.prog 104 = true := by kernel_rfl
@[go_sem] theorem bytesOf_104 : bytesOf Tryd.prog 104 = 8 := by kernel_rfl
@[go_sem] theorem zeroD_104 : zeroD Tryd.prog 104 = [.v (.pointer none)] := by kernel_rfl
@[go_sem] theorem okT_105 : okT Tryd.prog 105 = true := by kernel_rfl
@[go_sem] theorem szOf_105 : szOf Tryd.prog 105 = 1 := by kernel_rfl
@[go_sem] theorem aggT_105 : aggT Tryd.prog 105 = false := by kernel_rfl
@[go_sem] theorem undS_105 : (Tryd.prog.underlying 105).isSome = true := by kernel_rfl
@[go_sem] theorem infS_105 : (Tryd.prog.info? 105).isSome = true := by kernel_rfl
@[go_sem] theorem ifaceT_105 : ifaceT Tryd.prog 105 = false := by kernel_rfl
@[go_sem] theorem ptrT_105 : ptrT Tryd.prog 105 = false := by kernel_rfl
@[go_sem] theorem zeroT_105 : zeroT Tryd.prog 105 = true := by kernel_rfl
@[go_sem] theorem zeroOk_105 : zeroOk Tryd.prog 105 = true := by kernel_rfl
@[go_sem] theorem bytesOf_105 : bytesOf Tryd.prog 105 = 8 := by kernel_rfl
@[go_sem] theorem zeroD_105 : zeroD Tryd.prog 105 = [.v (.int .u64 0)] := by kernel_rfl
@[go_sem] theorem okT_107 : okT Tryd.prog 107 = true := by kernel_rfl
@[go_sem] theorem szOf_107 : szOf Tryd.prog 107 = 3 := by kernel_rfl
@[go_sem] theorem aggT_107 : aggT Tryd.prog 107 = true := by kernel_rfl
@[go_sem] theorem undS_107 : (Tryd.prog.underlying 107).isSome = true := by kernel_rfl
@[go_sem] theorem infS_107 : (Tryd.prog.info? 107).isSome = true := by kernel_rfl
@[go_sem] theorem ifaceT_107 : ifaceT Tryd.prog 107 = false := by kernel_rfl
@[go_sem] theorem ptrT_107 : ptrT Tryd.prog 107 = false := by kernel_rfl
@[go_sem] theorem zeroT_107 : zeroT Tryd.prog 107 = true := by kernel_rfl
@[go_sem] theorem zeroOk_107 : zeroOk Tryd.prog 107 = true := by kernel_rfl
@[go_sem] theorem bytesOf_107 : bytesOf Tryd.prog 107 = 24 := by kernel_rfl
@[go_sem] theorem zeroD_107 : zeroD Tryd.prog 107 = [.v (.pointer none), .v (.pointer none), .v (.int .u64 0)] := by kernel_rfl
@[go_sem] theorem fld_107_0 : fld Tryd.prog 107 0 = some (0, 17) := by kernel_rfl
@[go_sem] theorem fld_107_1 : fld Tryd.prog 107 1 = some (1, 104) := by kernel_rfl
@[go_sem] theorem fld_107_2 : fld Tryd.prog 107 2 = some (2, 105) := by kernel_rfl
@[go_sem] theorem okT_110 : okT Tryd.prog 110 = true := by kernel_rfl
@[go_sem] theorem szOf_110 : szOf Tryd.prog 110 = 1 := by kernel_rfl
@[go_sem] theorem aggT_110 : aggT Tryd.prog 110 = false := by kernel_rfl
@[go_sem] theorem undS_110 : (Tryd.prog.underlying 110).isSome = true := by kernel_rfl
@[go_sem] theorem infS_110 : (Tryd.prog.info? 110).isSome = true := by kernel_rfl
@[go_sem] theorem ifaceT_110 : ifaceT Tryd.prog 110 = true := by kernel_rfl
@[go_sem] theorem ptrT_110 : ptrT Tryd.prog 110 = false := by kernel_rfl
@[go_sem] theorem zeroT_110 : zeroT Tryd.prog 110 = true := by kernel_rfl
@[go_sem] theorem zeroOk_110 : zeroOk Tryd.prog 110 = true := by kernel_rfl
@[go_sem] theorem bytesOf_110 : bytesOf Tryd.prog 110 = 16 := by kernel_rfl
@[go_sem] theorem zeroD_110 : zeroD Tryd.prog 110 = [.v .nilIface] := by kernel_rfl
@[go_sem] theorem okT_112 : okT Tryd.prog 112 = true := by kernel_rfl
@[go_sem] theorem szOf_112 : szOf Tryd.prog 112 = 1 := by kernel_rfl
@[go_sem] theorem aggT_112 : aggT Tryd.prog 112 = false := by kernel_rfl
@[go_sem] theorem undS_112 : (Tryd.prog.underlying 112).isSome = true := by kernel_rfl
@[go_sem] theorem infS_112 : (Tryd.prog.info? 112).isSome = true := by kernel_rfl
@[go_sem] theorem ifaceT_112 : ifaceT Tryd.prog 112 = false := by kernel_rfl
@[go_sem] theorem ptrT_112 : ptrT Tryd.prog 112 = false := by kernel_rfl
@[go_sem] theorem zeroT_112 : zeroT Tryd.prog 112 = true := by kernel_rfl
@[go_sem] theorem zeroOk_112 : zeroOk Tryd.prog 112 = true := by kernel_rfl
@[go_sem] theorem bytesOf_112 : bytesOf Tryd.prog 112 = 1 := by kernel_rfl
@[go_sem] theorem zeroD_112 : zeroD Tryd.prog 112 = [.v (.int .u8 0)] := by kernel_rfl
@[go_sem] theorem okT_118 : okT Tryd.prog 118 = true := by kernel_rfl
@[go_sem] theorem szOf_118 : szOf Tryd.prog 118 = 1 := by kernel_rfl
@[go_sem] theorem aggT_118 : aggT Tryd.prog 118 = false := by kernel_rfl
@[go_sem] theorem undS_118 : (Tryd.prog.underlying 118).isSome = true := by kernel_rfl
@[go_sem] theorem infS_118 : (Tryd.prog.info? 118).isSome = true := by kernel_rfl
@[go_sem] theorem ifaceT_118 : ifaceT Tryd.prog 118 = false := by kernel_rfl
@[go_sem] theorem ptrT_118 : ptrT Tryd.prog 118 = true := by kernel_rfl
@[go_sem] theorem zeroT_118 : zeroT Tryd.prog 118 = true := by kernel_rfl
@[go_sem] theorem zeroOk_118 : zeroOk Tryd.prog 118 = true := by kernel_rfl
@[go_sem] theorem bytesOf_118 : bytesOf Tryd.prog 118 = 8 := by kernel_rfl
@[go_sem] theorem zeroD_118 : zeroD Tryd.prog 118 = [.v (.pointer none)] := by kernel_rfl
@[go_sem] theorem okT_135 : okT Tryd.prog 135 = true := by kernel_rfl
@[go_sem] theorem szOf_135 : szOf Tryd.prog 135 = 1 := by kernel_rfl
@[go_sem] theorem aggT_135 : aggT Tryd.prog 135 = false := by kernel_rfl
@[go_sem] theorem undS_135 : (Tryd.prog.underlying 135).isSome = true := by kernel_rfl
@[go_sem] theorem infS_135 : (Tryd.prog.info? 135).isSome = true := by kernel_rfl
@[go_sem] theorem ifaceT_135 : ifaceT Tryd.prog 135 = false := by kernel_rfl
@[go_sem] theorem ptrT_135 : ptrT Tryd.prog 135 = true := by kernel_rfl
@[go_sem] theorem zeroT_135 : zeroT Tryd.prog 135 = true := by kernel_rfl
@[go_sem] theorem zeroOk_135 : zeroOk Tryd.prog 135 = true := by kernel_rfl
@[go_sem] theorem bytesOf_135 : bytesOf Tryd.prog 135 = 8 := by kernel_rfl
@[go_sem] theorem zeroD_135 : zeroD Tryd.prog 135 = [.v (.pointer none)] := by kernel_rfl
@[go_sem] theorem okT_136 : okT Tryd.prog 136 = true := by kernel_rfl
@[go_sem] theorem szOf_136 : szOf Tryd.prog 136 = 1 := by kernel_rfl
@[go_sem] theorem aggT_136 : aggT Tryd.prog 136 = false := by kernel_rfl
@[go_sem] theorem undS_136 : (Tryd.prog.underlying 136).isSome = true := by kernel_rfl
@[go_sem] theorem infS_136 : (Tryd.prog.info? 136).isSome = true := by kernel_rfl
@[go_sem] theorem ifaceT_136 : ifaceT Tryd.prog 136 = false := by kernel_rfl
@[go_sem] theorem ptrT_136 : ptrT Tryd.prog 136 = false := by kernel_rfl
@[go_sem] theorem zeroT_136 : zeroT Tryd.prog 136 = true := by kernel_rfl
@[go_sem] theorem zeroOk_136 : zeroOk Tryd.prog 136 = true := by kernel_rfl
@[go_sem] theorem bytesOf_136 : bytesOf Tryd.prog 136 = 8 := by kernel_rfl
@[go_sem] theorem zeroD_136 : zeroD Tryd.prog 136 = [.v .nilFunc] := by kernel_rfl
@[go_sem] theorem okT_141 : okT Tryd.prog 141 = true := by kernel_rfl
@[go_sem] theorem szOf_141 : szOf Tryd.prog 141 = 1 := by kernel_rfl
@[go_sem] theorem aggT_141 : aggT Tryd.prog 141 = false := by kernel_rfl
@[go_sem] theorem undS_141 : (Tryd.prog.underlying 141).isSome = true := by kernel_rfl
@[go_sem] theorem infS_141 : (Tryd.prog.info? 141).isSome = true := by kernel_rfl
@[go_sem] theorem ifaceT_141 : ifaceT Tryd.prog 141 = false := by kernel_rfl
@[go_sem] theorem ptrT_141 : ptrT Tryd.prog 141 = false := by kernel_rfl
@[go_sem] theorem zeroT_141 : zeroT Tryd.prog 141 = true := by kernel_rfl
@[go_sem] theorem zeroOk_141 : zeroOk Tryd.prog 141 = true := by kernel_rfl
@[go_sem] theorem bytesOf_141 : bytesOf Tryd.prog 141 = 8 := by kernel_rfl
@[go_sem] theorem zeroD_141 : zeroD Tryd.prog 141 = [.v .nilFunc] := by kernel_rfl
theorem mixed : Tryd.prog.follows .mixedOrders = true := by kernel_rfl
end Go.Proofs.YtbcabejdchkpmaaDoor

namespace Go.Proofs.YtbcabejdchkpmaaDoor
open Go.RowKit

def u64D (n : Nat) : D := .v (.int .u64 (n : Int))
/-! What fits the machine's bounds. -/
section
variable {P : Program} {w : World} {η : Names} {X : Nat → Nat → Prop}
theorem rep_structs {F : Nat → Prop} {α : Type} (e : α → D) (z : Nat) (hz : 0 < z) (hX : ∀ b i, F b → X b i) {A : Option Addr} {c b o : Nat} {l : List α} {C : Nat → List Value} (hA : 0 < l.length → A = some ⟨b, o, none⟩ ∧ F b)
    (hC : ∀ i a, l[i]? = some a → (C i).length = z ∧ w.rangeAt b (o + i * z) (C i)) (hR : ∀ i a, l[i]? = some a → Rep P w η X (e a) (.agg (C i).toArray)) (hagg : ∀ a, (e a).isAgg = true) (hc : l.length ≤ c) (hn : l.length ≤ 140737488351232) :
    Rep P w η X (.sl .no (l.map e)) (.slice A l.length c) := by
  simp only [Rep]
  refine ⟨A, c, by rw [List.length_map], by rw [List.length_map]; exact hc, by rw [List.length_map]; omega, trivial, fun h0 => ?_⟩
  rw [List.length_map] at h0
  refine ⟨b, o, z, (hA h0).1, hz, RepE.mk fun i d hd => ?_⟩
  rw [List.getElem?_map] at hd
  cases hi : l[i]? with
  | none => rw [hi] at hd; cases hd
  | some a =>
    rw [hi] at hd
    injection hd with hd
    subst hd
    have h1 := hR i a hi
    obtain ⟨h2, h3⟩ := hC i a hi
    cases he : e a with
    | agg ds =>
      rw [he] at h1
      simp only [Rep] at h1
      obtain ⟨vs, h4, h5, h6⟩ := h1
      have : C i = vs := by
        injection h4 with h4
        have := congrArg Array.toList h4
        simpa using this
      rw [this] at h2 h3
      have hlen : ds.length = z := by rw [← h5.length, h2]
      exact ⟨by simp only [RepA]; exact ⟨hlen, RepC.mk h5 h3 (fun j _ => hX _ _ (hA h0).2) h6⟩, fun h => by simp [D.isAgg] at h⟩
    | _ => have := hagg a; rw [he] at this; simp [D.isAgg] at this
end
/-! ### Over memory, and over trees -/
section
variable {P : Program} {base : Nat} {S : St} {η : Names} {w : World}
end
theorem empty_toList : (⟨#[]⟩ : ByteArray).toList = [] := by rw [Go.Lib.toList_data]
attribute [go_sem] empty_toList u64D
end Go.Proofs.YtbcabejdchkpmaaDoor

namespace Go.Proofs.YtbcabejdchkpmaaDoor
open Go.RowKit
theorem sne1_2 (n : Nat) : (n + 1 = n + 2) = False := eq_false (by omega)
theorem sne1_3 (n : Nat) : (n + 1 = n + 3) = False := eq_false (by omega)
theorem sne1_4 (n : Nat) : (n + 1 = n + 4) = False := eq_false (by omega)
theorem sne2_1 (n : Nat) : (n + 2 = n + 1) = False := eq_false (by omega)
theorem sne2_3 (n : Nat) : (n + 2 = n + 3) = False := eq_false (by omega)
theorem sne2_4 (n : Nat) : (n + 2 = n + 4) = False := eq_false (by omega)
theorem sne3_1 (n : Nat) : (n + 3 = n + 1) = False := eq_false (by omega)
theorem sne3_2 (n : Nat) : (n + 3 = n + 2) = False := eq_false (by omega)
theorem sne3_4 (n : Nat) : (n + 3 = n + 4) = False := eq_false (by omega)
theorem sne4_1 (n : Nat) : (n + 4 = n + 1) = False := eq_false (by omega)
theorem sne4_2 (n : Nat) : (n + 4 = n + 2) = False := eq_false (by omega)
theorem sne4_3 (n : Nat) : (n + 4 = n + 3) = False := eq_false (by omega)
theorem sne1_0 (n : Nat) : (n + 1 = n) = False := eq_false (by omega)
theorem sne0_1 (n : Nat) : (n = n + 1) = False := eq_false (by omega)
theorem sne2_0 (n : Nat) : (n + 2 = n) = False := eq_false (by omega)
theorem sne0_2 (n : Nat) : (n = n + 2) = False := eq_false (by omega)
theorem sne3_0 (n : Nat) : (n + 3 = n) = False := eq_false (by omega)
theorem sne0_3 (n : Nat) : (n = n + 3) = False := eq_false (by omega)
theorem sne4_0 (n : Nat) : (n + 4 = n) = False := eq_false (by omega)
theorem sne0_4 (n : Nat) : (n = n + 4) = False := eq_false (by omega)
attribute [go_sem] sne1_2 sne1_3 sne1_4 sne2_1 sne2_3 sne2_4 sne3_1 sne3_2 sne3_4 sne4_1 sne4_2 sne4_3 sne1_0 sne0_1 sne2_0 sne0_2 sne3_0 sne0_3 sne4_0 sne0_4
theorem bin_beql {x y : Operand} (a b : Bool) : dbin Tryd.prog .eql 4 x y (.v (.bool a)) (.v (.bool b)) = some (True, .v (.bool (a == b))) := by
  cases a <;> cases b <;> kernel_rfl
attribute [go_sem] bin_beql
end Go.Proofs.YtbcabejdchkpmaaDoor

namespace Go.Proofs.YtbcabejdchkpmaaDoor
open Go.RowKit
abbrev DStp := Str × Nat
end Go.Proofs.YtbcabejdchkpmaaDoor

namespace Go.Proofs.YtbcabejdchkpmaaDoor
open Go.RowKit
theorem fin_tmp_normal {P : Program} {S : St} {f : Fm} {K : D → St → Prop} (t : Tmp) (S' : St) : DQ.fin P [.tmp t] S K .normal f S' = DFinT P S S' (f t) K := by simp [DQ.fin, dresL, dres, onVal, one]
theorem fin_tmp_ret {P : Program} {S : St} {f : Fm} {K : D → St → Prop} (t : Tmp) (S' : St) : DQ.fin P [.tmp t] S K .ret f S' = DFinT P S S' (f t) K := by simp [DQ.fin, dresL, dres, onVal, one]
attribute [go_sem] fin_tmp_normal fin_tmp_ret
end Go.Proofs.YtbcabejdchkpmaaDoor

namespace Go.Proofs.YtbcabejdchkpmaaDoor
open Go.RowKit

theorem ob_hit {S : St} {o : Ob} {k : Nat} (h : k = S.next) : (S.add o).ob k = some o := by rw [add_ob, if_pos h]
theorem ob_skip {S : St} {o : Ob} {k : Nat} (h : k ≠ S.next) : (S.add o).ob k = S.ob k := by rw [add_ob, if_neg h]
theorem ob_set {S : St} {o : Ob} {k j : Nat} (h : j = k) : (S.set k o).ob j = some o := by rw [set_ob, if_pos h]
theorem ob_old {S : St} {o : Ob} {k j : Nat} (h : j ≠ k) : (S.set k o).ob j = S.ob j := by rw [set_ob, if_neg h]
theorem drop_next (S : St) (g : Nat) : (S.drop g).next = S.next := Eq.trans (Eq.refl _) (Eq.refl _)
theorem ob_drop {S : St} {g k : Nat} (h : k ≠ g) : (S.drop g).ob k = S.ob k := by simp only [St.drop, if_neg h]
theorem int_zero : ((0 : Nat) : Int) = 0 := Eq.trans (Eq.refl _) (Eq.refl _)
attribute [go_sem] ob_hit ob_skip ob_set ob_old ob_drop drop_next getD_map Int.natCast_nonneg int_zero beq_self_eq_true Int.toNat_zero List.range_zero List.mem_cons List.not_mem_nil or_false forall_eq forall_eq_or_imp false_implies implies_true Option.isSome_some bnd or_true Int.toNat_one Int.le_refl ge_iff_le gt_iff_lt Nat.sub_zero
theorem cells_win_ (k off n c : Nat) : (D.win k off n c).cells = [D.win k off n c] := Eq.trans (Eq.refl _) (Eq.refl _)
theorem okCell_win_ (k off n c : Nat) : (D.win k off n c).okCell = true := Eq.trans (Eq.refl _) (Eq.refl _)
attribute [go_sem] cells_win_ okCell_win_
/-! What is written. -/
def dstOk (W : Nat → Bool) : Option Tmp → Bool
  | none => true
  | some t => W t
def wrOk (W : Nat → Bool) : Code → Bool
  | .region _ ops _ => ops.all fun o => dstOk W o.dst
  | .seq x y => wrOk W x && wrOk W y
  | .cond _ x y => wrOk W x && wrOk W y
  | .block _ c => wrOk W c
  | .loop c => wrOk W c
  | _ => true
def Off (W : Nat → Bool) (f f' : Fm) : Prop := ∀ t, W t = false → f' t = f t
theorem Off.refl (W : Nat → Bool) (f : Fm) : Off W f f := fun _ _ => rfl
theorem Off.trans {W : Nat → Bool} {f g h : Fm} (a : Off W f g) (b : Off W g h) : Off W f h := fun t ht => (b t ht).trans (a t ht)
theorem Off.put {W : Nat → Bool} {f g : Fm} (a : Off W f g) {dst : Option Tmp} (hd : dstOk W dst = true) (d : D) : Off W f (put g dst d) := fun t ht => by
  rw [put_same (fun e => by subst e; simp only [dstOk] at hd; rw [hd] at ht; cases ht)]
  exact a t ht
theorem St.WF.add {S : St} (h : S.WF) (o : Ob) : (S.add o).WF := fun k hk => by
  have hk' : S.next + 1 ≤ k := hk
  simp only [St.add]
  rw [if_neg (by omega)]
  exact h k (by omega)
theorem St.WF.set {S : St} (h : S.WF) {k : Nat} (hk : k < S.next) (o : Ob) : (S.set k o).WF := fun j hj => by
  have hj' : S.next ≤ j := hj
  simp only [St.set]
  rw [if_neg (by omega)]
  exact h j hj'
theorem St.WF.drop {S : St} (h : S.WF) (g : Nat) : (S.drop g).WF := fun j hj => by
  have hj' : S.next ≤ j := hj
  simp only [St.drop]
  split
  · rfl
  · exact h j hj'
theorem St.WF.leave {S : St} (h : S.WF) (o : Own) : (S.leave o).WF := by
  cases o with
  | row g => exact h.drop g
  | no => exact h
  | full => exact h
theorem St.WF.grow {S : St} (h : S.WF) (o : Own) (e : TypeId) (n : Nat) : (S.grow o e n).WF := (h.leave o).add _
theorem St.WF.keep {S : St} (h : S.WF) {n : Nat} (hn : S.next ≤ n) : (St.mk n S.ob).WF := fun k hk => h k (Nat.le_trans hn hk)
theorem St.Sub.keep {S T : St} (h : S.Sub T) {n : Nat} (hn : T.next ≤ n) : S.Sub ⟨n, T.ob⟩ := ⟨Nat.le_trans h.next hn, h.ob⟩
theorem St.Sub.trans {A B C : St} (h : A.Sub B) (k : B.Sub C) : A.Sub C := ⟨Nat.le_trans h.next k.next, fun i o hi => k.ob i o (h.ob i o hi)⟩
theorem DCalls.wf {P : Program} {g : FuncId} {args : List D} {S : St} {K : D → St → Prop} (h : DCalls P g args S K) : DCalls P g args S fun d S' => K d S' ∧ S'.WF := fun base η w vs hM hr => by
  rcases h base η w vs hM hr with ⟨h1, h2⟩ | ⟨d, S', η', v, w', h1, h2, h3, h4⟩
  · exact .inl ⟨h1, h2.mono fun _ _ ⟨d, S', η', v, h1, h2, h3, h4⟩ => ⟨d, S', η', v, ⟨h1, h4.mem.fresh⟩, h2, h3, h4⟩⟩
  · exact .inr ⟨d, S', η', v, w', h1, ⟨h2, h4.mem.fresh⟩, h3, h4⟩
theorem DRun.wf {P : Program} {run : List Value → Sem Value} {args : List D} {S : St} {K : D → St → Prop} (h : DRun P run args S K) : DRun P run args S fun d S' => K d S' ∧ S'.WF := fun base η w vs hM hr => by
  obtain ⟨d, S', η', v, w', h1, h2, h3, h4⟩ := h base η w vs hM hr
  exact ⟨d, S', η', v, w', h1, ⟨h2, h4.mem.fresh⟩, h3, h4⟩
theorem onVal_and {o : Option (Prop × D)} {K : D → Prop} {p : Prop} (hp : p) (h : onVal o K) : onVal o fun d => K d ∧ p := onVal_mono (fun _ hd => ⟨hd, hp⟩) h
section
variable {P : Program} {W : Nat → Bool}
theorem dop_more {f : Fm} {S : St} {ty : TypeId} {op : Op} {K : D → St → Prop} (hS : S.WF) (ho : dop P f S ty op K) : dop P f S ty op fun d S' => K d S' ∧ S'.WF := by
  cases op with
  | alloc t => simp only [dop] at *; exact ⟨ho.1, ho.2, hS.add _⟩
  | box t x => simp only [dop] at *; exact ⟨ho.1, ho.2, hS.add _⟩
  | store t x y =>
    simp only [dop] at *
    split at ho
    · split at ho
      · rename_i k off _ _ t' cs hk
        exact ⟨ho.1, ho.2.1, ho.2.2.1, ho.2.2.2.1, ho.2.2.2.2, hS.set (hS.lt hk) _⟩
      · exact ho
    · exact ho
  | call cl =>
    obtain ⟨callee, args, ts⟩ := cl
    cases callee with
    | value x =>
      simp only [dop] at *
      split at ho
      · exact ho.wf
      · exact ho
    | invoke r m =>
      simp only [dop] at *
      split at ho
      · obtain ⟨g, d', h1, h2⟩ := ho
        exact ⟨g, d', h1, h2.wf⟩
      · exact ho
    | builtin b =>
      by_cases hb : b = .append
      · subst hb
        simp only [dop] at *
        split at ho
        · split at ho
          · rcases ho with ⟨k1, k2, k3, k4, k5, k6, k7, k8⟩ | ⟨k1, k2, k3, k4, k5, k6, k7, k8, k9, k10⟩ | ho
            · exact .inl ⟨k1, k2, k3, k4, k5, k6, k7, k8, hS.grow _ _ _⟩
            · exact .inr (.inl ⟨k1, k2, k3, k4, k5, k6, k7, k8, k9, fun c zs e1 e2 => ⟨k10 c zs e1 e2, hS.add _⟩⟩)
            · exact .inr (.inr ho.wf)
          · exact ho
        · exact ho.wf
        · exact ho
      · cases b <;> first | exact absurd rfl hb | (simp only [dop] at *; exact onVal_and hS ho) | exact DRun.wf ho
  | makeSlice t x y => exact DRun.wf ho
  | typeAssert x xt t ok => exact DRun.wf ho
  | lookup t x i ok => exact DRun.wf ho
  | makeMap t r => exact DRun.wf ho
  | mapUpdate t m k x => exact (DRun.wf ho).mono fun d S' hd => ⟨hd.1.1, hd.1.2, hd.2⟩
  | insert t m k x => exact (DRun.wf ho).mono fun d S' hd => ⟨hd.1.1, hd.1.2, hd.2⟩
  | _ => simp only [dop] at *; exact onVal_and hS ho
theorem dops_more {ops : Array Oper} {Q : Fm → St → Prop} : ∀ (l : List Oper), (∀ o ∈ l, dstOk W o.dst = true) → ∀ {f : Fm} {S : St}, S.WF → dops P ops Q l f S → dops P ops (fun f' S' => Q f' S' ∧ S'.WF ∧ Off W f f') l f S
  | [], _, f, S, hS, h => ⟨h, hS, Off.refl W f⟩
  | o :: l, hw, f, S, hS, h => by
    unfold dops at *
    have h1 := hw o (by simp)
    have h2 : ∀ o' ∈ l, dstOk W o'.dst = true := fun o' ho => hw o' (by simp [ho])
    refine dwanted_mono (fun hy => ?_) (fun hn => ?_) h
    · refine dop_mono (fun d S' hk => ?_) (dop_more hS hy)
      refine dops_mono (fun f' S'' hq => ?_) l (dops_more l h2 hk.2 hk.1)
      exact ⟨hq.1, hq.2.1, (Off.put (Off.refl W f) h1 d).trans hq.2.2⟩
    · refine dops_mono (fun f' S'' hq => ?_) l (dops_more l h2 hS hn)
      exact ⟨hq.1, hq.2.1, (Off.put (Off.refl W f) h1 _).trans hq.2.2⟩
theorem dhead_more {ops : Array Oper} {S : St} (hS : S.WF) {Q : Fm → St → Prop} : ∀ (l : List Oper), (∀ o ∈ l, dstOk W o.dst = true) → ∀ {f : Fm} {u : Option Ob}, dhead P ops S Q l f u → dhead P ops S (fun f' S' => Q f' S' ∧ S'.WF ∧ Off W f f') l f u
  | [], _, f, u, h => ⟨h, (by cases u with | none => exact hS | some b => exact hS.add b), Off.refl W f⟩
  | o :: l, hw, f, u, h => by
    unfold dhead at *
    have h1 := hw o (by simp)
    have h2 : ∀ o' ∈ l, dstOk W o'.dst = true := fun o' ho => hw o' (by simp [ho])
    have go : ∀ (d : D) (u' : Option Ob), dhead P ops S Q l (put f o.dst d) u' → dhead P ops S (fun f' S' => Q f' S' ∧ S'.WF ∧ Off W f f') l (put f o.dst d) u' := fun d u' hd =>
      dhead_mono (fun f' S' hq => ⟨hq.1, hq.2.1, (Off.put (Off.refl W f) h1 d).trans hq.2.2⟩) l (dhead_more hS l h2 hd)
    split at h
    · exact hop_mono (fun d u' hd => go d u' hd) h
    · exact dwanted_mono (fun hq => dquiet_mono (fun d hd => go d u hd) hq) (go _ u) h
theorem sAny_more {ops : Array Oper} {md : Region.Mode} {Zs : St → Prop} {Q : Fm → St → Prop} (hw : ∀ (j : Nat) (o : Oper), ops[j]? = some o → dstOk W o.dst = true) : ∀ (fuel : Nat) (L : Array Bool) {f : Fm} {S : St}, S.WF → sAny P md ops Zs Q fuel L f S → sAny P md ops Zs (fun f' S' => Q f' S' ∧ S'.WF ∧ Off W f f') fuel L f S
  | 0, _, f, _, hS, k => ⟨k.1, k.2, hS, Off.refl W f⟩
  | n + 1, L, f, S, hS, k => by
    refine ⟨fun e => ⟨k.1 e, hS, Off.refl W f⟩, fun i hi => ?_⟩
    have h2 := k.2 i hi
    unfold sOp at *
    cases ho : ops[i]? with
    | none => rw [ho] at h2; exact sAny_more hw n _ hS h2
    | some o =>
      rw [ho] at h2
      have h1 := hw i o ho
      have go : ∀ d (S' : St), S'.WF → sAny P md ops Zs Q n (L.setIfInBounds i true) (put f o.dst d) S' → sAny P md ops Zs (fun f' S' => Q f' S' ∧ S'.WF ∧ Off W f f') n (L.setIfInBounds i true) (put f o.dst d) S' := fun d S' hS' hk =>
        sAny_mono (fun f' S' hq => ⟨hq.1, hq.2.1, (Off.put (Off.refl W f) h1 d).trans hq.2.2⟩) _ _ (sAny_more hw n _ hS' hk)
      rcases h2 with ⟨d, e1, e2⟩ | ⟨e1, e2⟩
      · exact .inl ⟨d, e1, go d S hS e2⟩
      · exact .inr ⟨e1, dop_mono (fun d S' hk => ⟨hk.1.1, go d S' hk.2 hk.1.2⟩) (dop_more hS e2)⟩
theorem dwp_more : ∀ (c : Code) {Q : DQ} {f : Fm} {S : St}, wrOk W c = true → S.WF → dwp P c Q f S → dwp P c (fun e f' S' => Q e f' S' ∧ S'.WF ∧ Off W f f') f S := by
  intro c
  induction c with
  | region id ops draw =>
    intro Q f S hw hS h
    have hw' : ∀ o ∈ ops.toList, dstOk W o.dst = true := fun o ho => Array.all_eq_true_iff_forall_mem.1 hw o (by simpa using ho)
    cases draw with
    | false => exact dops_more _ hw' hS h
    | true =>
      rcases h with ⟨n, h1, h2⟩ | ⟨Zs, n, h1, h2, h3⟩
      rotate_left
      · refine .inr ⟨Zs, n, h1, h2, sAny_mono (fun f' S' hq => ?_) _ _ (sAny_more (W := W) (fun j o ho => hw' o (by
          have := List.mem_of_getElem? (show (ops.toList.take n)[j]? = some o by simpa using ho)
          exact List.mem_of_mem_take this)) _ _ hS h3)⟩
        refine dops_mono (fun f'' S'' hk => ?_) _ (dops_more (W := W) _ (fun o ho => hw' o (List.mem_of_mem_drop ho)) hq.2.1 hq.1)
        exact ⟨hk.1, hk.2.1, hq.2.2.trans hk.2.2⟩
      refine .inl ⟨n, h1, dhead_mono (fun f' S' hq => ?_) _ (dhead_more (W := W) hS _ (fun o ho => hw' o (List.mem_of_mem_take ho)) h2)⟩
      refine dops_mono (fun f'' S'' hk => ?_) _ (dops_more (W := W) _ (fun o ho => hw' o (List.mem_of_mem_drop ho)) hq.2.1 hq.1)
      exact ⟨hk.1, hk.2.1, hq.2.2.trans hk.2.2⟩
  | seq x y ihx ihy =>
    intro Q f S hw hS h
    simp only [wrOk, Bool.and_eq_true] at hw
    refine dwp_mono x (fun e f2 S2 hq => ?_) (ihx hw.1 hS h)
    cases e with
    | normal =>
      refine dwp_mono y (fun e3 f3 S3 h3 => ?_) (ihy (Q := Q) hw.2 hq.2.1 hq.1)
      exact ⟨h3.1, h3.2.1, hq.2.2.trans h3.2.2⟩
    | exit i => exact hq
    | ret => exact hq
  | cond g x y ihx ihy =>
    intro Q f S hw hS h
    simp only [wrOk, Bool.and_eq_true] at hw
    unfold dwp at h ⊢
    generalize ev f g = u at h ⊢
    cases u with
    | v u => cases u with
      | bool b => exact ⟨fun e => ihx hw.1 hS (h.1 e), fun e => ihy hw.2 hS (h.2 e)⟩
      | _ => exact h
    | _ => exact h
  | block id c ih =>
    intro Q f S hw hS h
    refine dwp_mono c (fun e f2 S2 hq => ?_) (ih hw hS h)
    cases e with
    | normal => exact hq
    | ret => exact hq
    | exit i =>
      simp only [DQ.block] at *
      cases hb : Nat.beq i id with
      | true => rw [hb] at hq; exact hq
      | false => rw [hb] at hq; exact hq
  | loop c ih =>
    intro Q f S hw hS h
    obtain ⟨I, μ, h0, hr⟩ := h
    refine ⟨fun g T => I g T ∧ T.WF ∧ Off W f g, μ, ⟨h0, hS, Off.refl W f⟩, fun g T ⟨hI, hT, hg⟩ => ?_⟩
    refine dwp_mono c (fun e f2 S2 hq => ?_) (ih hw hT (hr g T hI))
    obtain ⟨hq, hwf, hoff⟩ := hq
    cases e with
    | normal =>
      obtain ⟨S'', ⟨s1, s2⟩, s3, s4⟩ := hq
      refine ⟨S'', ⟨s1, s2⟩, ⟨s3, fun k hk => ?_, hg.trans hoff⟩, s4⟩
      cases ho : S''.ob k with
      | none => rfl
      | some o => have := s2 k o ho; rw [hwf k (by omega)] at this; cases this
    | exit i => exact ⟨hq, hwf, hg.trans hoff⟩
    | ret => exact ⟨hq, hwf, hg.trans hoff⟩
  | skip => intro Q f S _ hS k; exact ⟨k, hS, Off.refl W f⟩
  | label l => intro Q f S _ hS k; exact ⟨k, hS, Off.refl W f⟩
  | exit i => intro Q f S _ hS k; exact ⟨k, hS, Off.refl W f⟩
  | ret => intro Q f S _ hS k; exact ⟨k, hS, Off.refl W f⟩
  | rangeFunc x ps aa b _ _ => intro Q f S _ _ k; exact k.elim
  | scope c _ => intro Q f S _ _ k; exact k.elim
  | goto l => intro Q f S _ _ k; exact k.elim
  | refuse s => intro Q f S _ _ k; exact k.elim
def dnextR (I : Nat → Fm → St → Prop) (m : Nat) (f' : Fm) (S' : St) : Prop := ∃ (m' : Nat) (ob : Nat → Option Ob), m' < m ∧ (∀ k o, ob k = some o → S'.ob k = some o) ∧ I m' f' ⟨S'.next, ob⟩
theorem least_of {p : Nat → Prop} (h : ∃ n, p n) : ∃ n, p n ∧ ∀ m, p m → n ≤ m := by
  obtain ⟨n, hn⟩ := h
  induction n using Nat.strongRecOn with
  | _ n ih =>
    by_cases hx : ∃ m, m < n ∧ p m
    · obtain ⟨m, h1, h2⟩ := hx
      exact ih m h1 h2
    · refine ⟨n, hn, fun m hm => ?_⟩
      rcases Nat.lt_or_ge m n with h1 | h1
      · exact absurd ⟨m, h1, hm⟩ hx
      · exact h1
theorem dloop_down {c : Code} {Q : DQ} {f : Fm} {S : St} (W : Nat → Bool) (hW : wrOk W c = true) (hS : S.WF) (I : Nat → Fm → St → Prop) (m : Nat) (h0 : I m f S)
    (hr : ∀ m g T, T.WF → Off W f g → I m g T → dwp P c (DQ.then (dnextR I m) Q) g T) : DLoop (dwp P c) Q f S := by
  classical
  let J : Fm → St → Nat → Prop := fun g T m => I m g T ∧ T.WF ∧ Off W f g
  refine ⟨fun g T => ∃ m, J g T m, fun g T => if h : ∃ m, J g T m then Classical.choose (least_of h) else 0, ⟨m, h0, hS, Off.refl W f⟩, fun g T hI => ?_⟩
  have hf := (Classical.choose_spec (least_of hI)).1
  obtain ⟨h1, h2, h3⟩ := hf
  refine dwp_mono c (fun e f2 S2 hq => ?_) (dwp_more (W := W) c hW h2 (hr _ g T h2 h3 h1))
  obtain ⟨hq, hwf, hoff⟩ := hq
  cases e with
  | normal =>
    obtain ⟨m', ob, k1, k2, k3⟩ := hq
    have hw2 : (St.mk S2.next ob).WF := fun k hk => by
      cases ho : ob k with
      | none => exact ho
      | some o => have := k2 k o ho; rw [hwf k hk] at this; cases this
    have hj : J f2 ⟨S2.next, ob⟩ m' := ⟨k3, hw2, h3.trans hoff⟩
    refine ⟨⟨S2.next, ob⟩, ⟨rfl, k2⟩, ⟨m', hj⟩, ?_⟩
    show (if h : ∃ m, J f2 ⟨S2.next, ob⟩ m then Classical.choose (least_of h) else 0) < (if h : ∃ m, J g T m then Classical.choose (least_of h) else 0)
    rw [dif_pos ⟨m', hj⟩, dif_pos hI]
    exact Nat.lt_of_le_of_lt ((Classical.choose_spec (least_of ⟨m', hj⟩)).2 m' hj) k1
  | exit i => exact hq
  | ret => exact hq
def dnextU (I : Nat → Fm → St → Prop) (n i : Nat) (f' : Fm) (S' : St) : Prop := i < n ∧ ∃ ob : Nat → Option Ob, (∀ k o, ob k = some o → S'.ob k = some o) ∧ I (i + 1) f' ⟨S'.next, ob⟩
theorem dloop_up {c : Code} {Q : DQ} {f : Fm} {S : St} (W : Nat → Bool) (hW : wrOk W c = true) (hS : S.WF) (n : Nat) (I : Nat → Fm → St → Prop) (h0 : I 0 f S)
    (hr : ∀ i g T, T.WF → Off W f g → I i g T → dwp P c (DQ.then (dnextU I n i) Q) g T) : DLoop (dwp P c) Q f S := by
  refine dloop_down W hW hS (fun m g T => ∃ i, m = n - i ∧ I i g T) (n - 0) ⟨0, rfl, h0⟩ fun m g T hT hg ⟨i, hm, hI⟩ => ?_
  subst hm
  refine dwp_mono c (fun e f2 S2 hq => ?_) (hr i g T hT hg hI)
  cases e with
  | normal =>
    obtain ⟨k1, ob, k2, k3⟩ := hq
    exact ⟨n - (i + 1), ob, by omega, k2, i + 1, rfl, k3⟩
  | exit i => exact hq
  | ret => exact hq
def dnextS (S : St) (I : Nat → Fm → Prop) (n i : Nat) (f' : Fm) (S' : St) : Prop := i < n ∧ S.Sub S' ∧ I (i + 1) f'
theorem dloop_st {c : Code} {Q : DQ} {f : Fm} {S : St} (W : Nat → Bool) (hW : wrOk W c = true) (hS : S.WF) (n : Nat) (I : Nat → Fm → Prop) (h0 : I 0 f)
    (hr : ∀ i g tn, S.next ≤ tn → (St.mk tn S.ob).WF → Off W f g → I i g → dwp P c (DQ.then (dnextS S I n i) Q) g ⟨tn, S.ob⟩) : DLoop (dwp P c) Q f S := by
  refine dloop_up W hW hS n (fun i g T => S.next ≤ T.next ∧ T.ob = S.ob ∧ I i g) ⟨Nat.le_refl _, rfl, h0⟩ fun i g T hT hg ⟨h1, h2, h3⟩ => ?_
  obtain ⟨tn, tob⟩ := T
  have h2' : tob = S.ob := h2
  subst h2'
  refine dwp_mono c (fun e f2 S2 hq => ?_) (hr i g tn h1 hT hg h3)
  cases e with
  | normal => exact ⟨hq.1, S.ob, hq.2.1.ob, hq.2.1.next, rfl, hq.2.2⟩
  | exit i => exact hq
  | ret => exact hq
/-! A row that grows. -/
def rowOf (S : St) (own : Own) (e : TypeId) (n : Nat) : Nat → Option Ob := fun k => match own with
  | .row g => if k = g then some (.row e n) else S.ob k
  | _ => S.ob k
def RowOk (lo : Nat) (S : St) (own : Own) (n : Nat) : Prop := own = .full ∨ ∃ g, own = .row g ∧ lo ≤ g ∧ S.ob g = none ∧ g < n
theorem rowOf_some {lo : Nat} {S : St} {own : Own} {n : Nat} (h : RowOk lo S own n) {e : TypeId} {m k : Nat} {o : Ob} (hk : S.ob k = some o) : rowOf S own e m k = some o := by
  rcases h with rfl | ⟨g, rfl, _, h1, _⟩
  · exact hk
  · have : k ≠ g := fun e => by subst e; rw [h1] at hk; cases hk
    show (if k = g then _ else _) = _
    rw [if_neg this]
    exact hk
theorem RowOk.sub {lo : Nat} {S : St} {own : Own} {e : TypeId} {m n : Nat} (h : RowOk lo S own n) (hn : S.next ≤ n) : S.Sub ⟨n, rowOf S own e m⟩ := ⟨hn, fun k o hk => rowOf_some h hk⟩
theorem leave_next (S : St) (own : Own) : (S.leave own).next = S.next := by cases own <;> rfl
theorem aI {a b : Prop} (h : b) (ha : a := by with_reducible first | omega | assumption | rfl) : a ∧ b := ⟨ha, h⟩
theorem nx : (∀ (S : St) (o : Ob), (S.add o).next = S.next + 1) ∧ (∀ (S : St) (k : Nat) (o : Ob), (S.set k o).next = S.next) ∧ (∀ (S : St) (own : Own) (e : TypeId) (n : Nat), (S.grow own e n).next = S.next + 1) ∧ (∀ (S : St) (own : Own), (S.leave own).next = S.next) ∧ (∀ (S : St) (g : Nat), (S.drop g).next = S.next) ∧ (∀ (α β : Type) (f : α → β) (l : List α), (l.map f).length = l.length) :=
  ⟨add_next, set_next, grow_next, leave_next, drop_next, fun _ _ f l => List.length_map ..⟩
abbrev RowOk.lo {lo : Nat} {S : St} {own : Own} {n : Nat} (_ : RowOk lo S own n) : Nat := lo
end
end Go.Proofs.YtbcabejdchkpmaaDoor

namespace Go.Proofs.YtbcabejdchkpmaaDoor
open Go.ChangeShapes Go.WideShapes Go.RowKit
theorem door_own : ownKnob Tryd.prog.godebug = none := by kernel_rfl
theorem door_laidOut : laidOutB Tryd.prog = true := by kernel_rfl
theorem door_et : Tryd.prog.globalNamed "errors.errorType" = some 0 := by kernel_rfl
theorem door_rt : (Tryd.prog.cutTypes.find? (·.1 == "internal/reflectlite.rtype")).map (·.2) = some 122 := by kernel_rfl
theorem door_row : ((List.range Tryd.prog.types.size).filter fun t => Tryd.prog.rowNamed t [101, 114, 114, 111, 114]) = [35] := by kernel_rfl
abbrev doorLaid {H : Type} : List (String × DataW H) := [("errors.errorType", Rows.laid_errors_errorType)]
theorem handle_of_laid {W : World} (h : laidMetH Tryd.prog doorLaid W) : W.cell? ⟨0, 0, none⟩ = some (.iface 122 (.agg #[.pointer (some ⟨1, 35, none⟩)])) := by
  have h' : laidMet Tryd.prog [] W ∧ handlesMet Tryd.prog doorLaid W := h
  obtain ⟨name, u, ty, e1, e2, e3, e4, e5⟩ := h'.2 _ (List.mem_singleton.2 rfl)
  have en : name = [101, 114, 114, 111, 114] := (Option.some.inj e1).symm
  subst en
  obtain rfl := Option.some.inj (door_rt.symm.trans e2)
  have hm : ty ∈ (List.range Tryd.prog.types.size).filter fun t => Tryd.prog.rowNamed t [101, 114, 114, 111, 114] := List.mem_filter.2 ⟨List.mem_range.2 e3, e4⟩
  rw [door_row] at hm
  obtain rfl := List.mem_singleton.1 hm
  have hh : typeHandle Tryd.prog 35 = .pointer (some ⟨1, 35, none⟩) := by kernel_rfl
  rw [hh] at e5
  simpa using World.var?_cell door_et e5 0
theorem glob_of_laid {W : World} (h : laidMetH Tryd.prog doorLaid W) : GlobOk W.heap.size W := fun p hp => by
  have hc := handle_of_laid h
  have e : p = (0, .iface 122 (.agg #[.pointer (some ⟨1, 35, none⟩)])) := List.mem_singleton.1 hp
  subst e
  refine ⟨?_, hc⟩
  rcases Nat.lt_or_ge 0 W.heap.size with h0 | h0
  · exact h0
  · exact absurd hc (by simp [World.cell?, Array.getElem?_eq_none h0])
def door_st : St := ⟨0, fun _ => none⟩
section
variable {P : Program}
theorem door_mem (w : World) (hg : GlobOk w.heap.size w) : Mem P w.heap.size door_st (fun _ => none) w := ⟨Nat.le_refl _, fun _ _ => rfl, fun _ _ => rfl, (fun _ _ _ h => by cases h), (fun _ _ _ h => by cases h), (fun _ _ h => by cases h), (fun _ _ _ _ h => by cases h), (fun _ _ _ _ h => by cases h), hg⟩
theorem door_gives {g : FuncId} {args : List D} {v : Value} (h : DPure P g args (.v v)) {w : World} {vs : List Value} (hr : RepL P w (fun _ => none) (Fix P door_st fun _ => none) args vs) (hent : ∀ vs w, (callFunc g vs).run P w = .ok (.enter g vs) w := by intro _ _; kernel_rfl) (hg : GlobOk w.heap.size w) : Calls P g vs.toArray w (Gives v w) := by
  rcases h door_st w.heap.size _ w vs (door_mem w hg) hr with ⟨_, k⟩ | ⟨d, S', η', u, w', k, _⟩
  · refine k.mono fun _ _ ⟨d, S', η', u, ⟨h1, _⟩, h2, h3, h4⟩ => ?_
    subst h1
    simp only [Rep] at h3
    subst h3
    exact ⟨h2, h4.below⟩
  · rw [hent] at k
    injection k with k
    cases k
end
noncomputable def laidWorld (os : Os) : World :=
  let w0 := World.holding Tryd.prog os ⟨#[], #[], []⟩
  { w0 with heap := w0.heap.modify 0 fun
      | .cells _ t frozen => .cells #[.iface 122 (.agg #[.pointer (some ⟨1, 35, none⟩)])] t frozen
      | o => o }
theorem laidWorld_met (os : Os) (args : Array Value) : laidMetH Tryd.prog doorLaid ((laidWorld os).forCall (fun _ _ => 0) ⟨#[], args, []⟩).memory :=
  laidMetH_of_parts (laidMet_nil _ _) (by kernel_rfl)
end Go.Proofs.YtbcabejdchkpmaaDoor

namespace Go.Proofs.YtbcabejdchkpmaaDoor
open Go.RowKit

section
variable {P : Program} {base : Nat} {S : St} {η : Names} {w : World}
end
theorem dquietR_of {P : Program} {f : Fm} {S : St} {ty : TypeId} {op : Op} {d : D} (h : dquiet P f S ty op fun d' => d' = d) : dquietR P f S ty op d := by
  obtain ⟨d', h1, rfl⟩ := dquiet_iff.1 h
  exact h1
end Go.Proofs.YtbcabejdchkpmaaDoor

namespace Go.Proofs.YtbcabejdchkpmaaDoor
open Go.RowKit
def DQ.inl (P : Program) (rs : List ResultVar) (K : D → St → Prop) : DQ
  | .exit _, _, _ => False
  | _, f, S' => dresL P f S' rs fun ds => K (one ds) S'
theorem dcalls_inline {P : Program} (hm : P.follows .mixedOrders = true) {g : FuncId} {fn : Func} {c : Code} (hf : P.funcs[g]? = some fn) (hb : fn.body = some c) (hent : ∀ vs w, (callFunc g vs).run P w = .ok (.enter g vs) w) {rs : List ResultVar} (hrs : fn.results.toList = rs) {args : List D} (hok : (codeOk fn.ntmps c && fn.results.all (resOk fn.ntmps) && Nat.ble args.length fn.ntmps) = true) {S : St} {K : D → St → Prop}
    (h : S.WF → dwp P c (DQ.inl P rs K) (argF args) S) : DCalls P g args S K := by
  subst hrs
  intro base η w vs hM hr
  refine .inl ⟨hent _ _, ?_⟩
  simp only [Bool.and_eq_true] at hok
  obtain ⟨⟨hok1, hok2⟩, hok3⟩ := hok
  have hlen : args.length ≤ fn.ntmps := Nat.le_of_ble_eq_true hok3
  have hl := hr.length
  have hsz : (vs.toArray ++ Array.replicate (fn.ntmps - vs.toArray.size) undef).size = fn.ntmps := by simp; omega
  refine calls_of_wp hf hb ?_
  refine dwp_sound hm c (a := { tmps := vs.toArray ++ Array.replicate (fn.ntmps - vs.toArray.size) undef, defers := [] }) (by rw [hsz]; exact hok1) hM (fun t ht => ?_) (h hM.fresh) fun e f' S' η' w' a' k1 k2 k3 k4 k5 => ?_
  · rw [hsz] at ht
    simp only [argF]
    by_cases h1 : t < vs.length
    · obtain ⟨x, hx, hr'⟩ := hr.get t (List.getElem?_eq_getElem (by omega : t < args.length))
      have e1 : args.getD t undefD = args[t] := by rw [List.getD_eq_getElem?_getD, List.getElem?_eq_getElem (by omega : t < args.length)]; rfl
      have e2 : (vs.toArray ++ Array.replicate (fn.ntmps - vs.toArray.size) undef).getD t undef = x := by
        rw [Array.getD_eq_getD_getElem?, Array.getElem?_append_left (by simpa using h1)]
        simp [hx]
      rw [e1, e2]
      exact hr'
    · have e1 : args.getD t undefD = undefD := by rw [List.getD_eq_getElem?_getD, List.getElem?_eq_none (by omega)]; rfl
      have e2 : (vs.toArray ++ Array.replicate (fn.ntmps - vs.toArray.size) undef).getD t undef = undef := by
        rw [Array.getD_eq_getD_getElem?, Array.getElem?_append_right (by simpa using h1)]
        rw [Array.getElem?_replicate]
        split <;> rfl
      rw [e1, e2]
      simp only [Rep, RepL]
      exact ⟨[], rfl, rfl⟩
  · have hsz' : a'.tmps.size = fn.ntmps := by rw [k4]; exact hsz
    have hd' : a'.defers = [] := k5
    have fin : dresL P f' S' fn.results.toList (fun ds => K (one ds) S') → a'.defers = [] ∧ ∃ v, (results fn a'.tmps).run P w' = .ok v w' ∧ ∃ d S'' η'' u, K d S'' ∧ Ending.returned v = .returned u ∧ Rep P w' η'' (Fix P S'' η'') d u ∧ Goes P base S η w S'' η'' w' := fun hres => by
      obtain ⟨ds, v, hk, q7, q8⟩ := results_sound k2.mem k3 (by rw [hsz']; exact hok2) hres
      exact ⟨hd', v, q8, one ds, S', η', v, hk, rfl, q7, k2⟩
    cases e with
    | normal => exact fin k1
    | ret => exact fin k1
    | exit i => exact k1.elim
section
variable {P : Program} {S : St} {f : Fm} {K : D → St → Prop}
theorem inl_ret (t : Tmp) (S' : St) : DQ.inl P [.tmp t] K .ret f S' = K (f t) S' := by simp [DQ.inl, dresL, dres, onVal, one]
theorem inl_normal (t : Tmp) (S' : St) : DQ.inl P [.tmp t] K .normal f S' = K (f t) S' := by simp [DQ.inl, dresL, dres, onVal, one]
theorem inl_ret2 (t u : Tmp) (S' : St) : DQ.inl P [.tmp t, .tmp u] K .ret f S' = K (.tup [f t, f u]) S' := by simp [DQ.inl, dresL, dres, onVal, one]
theorem inl_normal2 (t u : Tmp) (S' : St) : DQ.inl P [.tmp t, .tmp u] K .normal f S' = K (.tup [f t, f u]) S' := by simp [DQ.inl, dresL, dres, onVal, one]
theorem inl_ret0 (S' : St) : DQ.inl P [] K .ret f S' = K undefD S' := by simp [DQ.inl, dresL, one]
theorem inl_normal0 (S' : St) : DQ.inl P [] K .normal f S' = K undefD S' := by simp [DQ.inl, dresL, one]
end
attribute [go_sem] inl_ret inl_normal inl_ret2 inl_normal2 inl_ret0 inl_normal0
end Go.Proofs.YtbcabejdchkpmaaDoor

namespace Go.Proofs.YtbcabejdchkpmaaDoor
open Go.RowKit Go.Extern.Stop Go.Stop Go.Extern
/-! The value that a tree without memory stands for. -/
mutual
def D.val : D → Option Value
  | .v x => some x
  | .ifc t d => (D.val d).map (Value.iface t ·)
  | .agg cs => (valL cs).bind fun vs => bif vs.all (·.oneCell') then some (.agg vs.toArray) else none
  | _ => none
def valL : List D → Option (List Value)
  | [] => some []
  | d :: l => (D.val d).bind fun x => (valL l).map (x :: ·)
end
section
variable {P : Program} {w : World} {η : Names} {X : Nat → Nat → Prop}
mutual
theorem rep_val_iff : ∀ {d : D} {x : Value}, D.val d = some x → ∀ {y : Value}, Rep P w η X d y ↔ y = x
  | .v x, _, h, y => by simp only [D.val, Option.some.injEq] at h; subst h; simp only [Rep]
  | .ifc t d, _, h, y => by
    simp only [D.val, Option.map_eq_some_iff] at h
    obtain ⟨z, h1, rfl⟩ := h
    simp only [Rep]
    constructor
    · rintro ⟨u, rfl, hu⟩
      rw [(rep_val_iff h1).1 hu]
    · rintro rfl
      exact ⟨z, rfl, (rep_val_iff h1).2 rfl⟩
  | .agg cs, _, h, y => by
    simp only [D.val, Option.bind_eq_some_iff] at h
    obtain ⟨vs, h1, h2⟩ := h
    cases hb : vs.all (·.oneCell') with
    | false => rw [hb] at h2; cases h2
    | true =>
      rw [hb] at h2
      simp only [cond_true, Option.some.injEq] at h2
      subst h2
      simp only [Rep]
      constructor
      · rintro ⟨us, rfl, hu, _⟩
        rw [(rep_valL_iff h1).1 hu]
      · rintro rfl
        exact ⟨vs, rfl, (rep_valL_iff h1).2 rfl, fun u hu => List.all_eq_true.1 hb u hu⟩
  | .tup _, _, h, _ => by simp [D.val] at h
  | .fn _ _ _, _, h, _ => by simp [D.val] at h
  | .loc _ _, _, h, _ => by simp [D.val] at h
  | .rd _ _, _, h, _ => by simp [D.val] at h
  | .sl _ _, _, h, _ => by simp [D.val] at h
  | .win _ _ _ _, _, h, _ => by simp [D.val] at h
theorem rep_valL_iff : ∀ {l : List D} {vs : List Value}, valL l = some vs → ∀ {us : List Value}, RepL P w η X l us ↔ us = vs
  | [], _, h, us => by simp only [valL, Option.some.injEq] at h; subst h; simp only [RepL]
  | d :: l, _, h, us => by
    simp only [valL, Option.bind_eq_some_iff, Option.map_eq_some_iff] at h
    obtain ⟨x, h1, xs, h2, rfl⟩ := h
    simp only [RepL]
    constructor
    · rintro ⟨y, ys, rfl, hy, hys⟩
      rw [(rep_val_iff h1).1 hy, (rep_valL_iff h2).1 hys]
    · rintro rfl
      exact ⟨x, xs, rfl, (rep_val_iff h1).2 rfl, (rep_valL_iff h2).2 rfl⟩
end
end
section
variable {P : Program} {S : St} {K : D → St → Prop}
theorem dext {g : FuncId} {fn : Func} {e : Array Value → Sem Value} (hf : P.funcs[g]? = some fn) (hname : (fn.name == "runtime.NumGoroutine") = false) (hb : fn.body.isNone = true) (hn : Extern.findNext fn = none) (hx : Extern.find fn = some e) {args : List D}
    (h : ∀ base η w vs, Mem P base S η w → RepL P w η (Fix P S η) args vs → ∃ d S' η' v w', (e vs.toArray).run P w = .ok v w' ∧ K d S' ∧ Rep P w' η' (Fix P S' η') d v ∧ Goes P base S η w S' η' w') : DCalls P g args S K := fun base η w vs hM hr => by
  obtain ⟨d, S', η', v, w', h1, h2, h3, h4⟩ := h base η w vs hM hr
  refine .inr ⟨d, S', η', v, w', ?_, h2, h3, h4⟩
  rw [run_callFunc_extern hf hname hb hn hx, h1]
  rfl
theorem dext_pure {g : FuncId} {fn : Func} {e : Array Value → Sem Value} (hf : P.funcs[g]? = some fn) (hname : (fn.name == "runtime.NumGoroutine") = false) (hb : fn.body.isNone = true) (hn : Extern.findNext fn = none) (hx : Extern.find fn = some e) {args : List D} {us : List Value} {r : Value} {d : D}
    (hv : valL args = some us) (h : ∀ w, (e us.toArray).run P w = .ok r w) (hd : D.val d = some r) (hk : K d S) : DCalls P g args S K :=
  dext hf hname hb hn hx fun base η w vs hM hr => by
    rw [(rep_valL_iff hv).1 hr]
    exact ⟨d, S, η, r, w, h w, hk, (rep_val_iff hd).2 rfl, Goes.refl hM⟩
theorem dmeth_pure {t : TypeId} {d d' : D} {m : String} {g : FuncId} {x r : Value} (hd : D.val d = some x) (hd' : D.val d' = some r) (h : ∀ w, (method (P.types.size + Made.depth) t x m).run P w = .ok (g, r) w) : DMeth P t d m g d' := fun w η X v hr => by
  rw [(rep_val_iff hd).1 hr]
  exact ⟨r, h w, (rep_val_iff hd').2 rfl⟩
end
abbrev tyV (t : TypeId) : Value := .pointer (some ⟨1, t, none⟩)
abbrev tyD (t : TypeId) : D := .agg [.v (tyV t)]
abbrev rtD (t : TypeId) : D := .ifc 122 (tyD t)
theorem rlm (z : Sem Value) (f : TypeId → Addr → Nat → Nat → Sem Value) (v : Value) :
    ReflectliteValue.method z f #[v] = (do match ← ReflectliteValue.parts v with | none => z | some (t, a, fl) => f t a fl (fl % 32)) := rfl
theorem rls (v x : Value) : ReflectliteValue.set #[v, x] = (do
    let (some (dst, a, fl), some (src, b, _)) := (← ReflectliteValue.parts v, ← ReflectliteValue.parts x)
      | unsupported (.noEntry "extern/(internal/reflectlite.Value).Set.zeroValue")
    if fl / ReflectliteValue.flagAddr % 2 == 0 then unsupported (.noEntry "extern/(internal/reflectlite.Value).Set.unaddressable")
    let val ← loadVar src b
    if ← Rtype.directlyAssignable dst src then storeVar dst a val
    else if ← Rtype.implements dst src then
      if (← Rtype.kind src) == 20 then
        match val with
        | .nilIface => unsupported (.noEntry "extern/reflectlite: a nil value of one interface type handed on as a value of another")
        | _ => storeVar dst a val
      else storeVar dst a (.iface src val)
    else panicString ("reflectlite.Set: value of type " ++ (← Rtype.spelt src) ++ " is not assignable to type " ++ (← Rtype.spelt dst))
    pure (.tuple #[])) := rfl

section
variable {S : St} {K : D → St → Prop}
theorem unpackPEr (a : Addr) (w : World) : (ReflectliteValue.unpack (.iface 88 (.pointer (some a)))).run Tryd.prog w = .ok (.agg #[tyV 88, .pointer (some ⟨w.heap.size, 0, none⟩), .int .u64 150]) (w.alloc (.cells #[.pointer (some a)] 88)) := by kernel_rfl
theorem rlValueOfPEr {k off : Nat} (h : K (.agg [.v (tyV 88), .loc S.next 0, .v (.int .u64 150)]) (S.add (.box 88 [.loc k off]))) : DCalls Tryd.prog 73 [.ifc 88 (.loc k off)] S K :=
  dext (e := fun args => ReflectliteValue.unpack (args.getD 0 (.tuple #[]))) Tryd.func73 (by kernel_rfl) (by kernel_rfl) (by kernel_rfl) (by kernel_rfl) fun base η w vs hM hr => by
    simp only [RepL, Rep] at hr
    obtain ⟨_, _, rfl, ⟨_, rfl, b, hb, rfl⟩, rfl⟩ := hr
    have G := goes_name hM (.box 88 [.loc k off]) #[.pointer (some ⟨b, off, none⟩)] 88 (.inl ⟨_, [.pointer (some ⟨b, off, none⟩)], rfl, rfl, by simp only [RepL, Rep]; exact ⟨_, _, rfl, ⟨b, hb, rfl⟩, rfl⟩, fun x hx => by rw [List.mem_singleton] at hx; subst hx; rfl⟩)
    refine ⟨_, _, _, _, _, unpackPEr _ w, h, ?_, G⟩
    simp only [Rep, RepL]
    exact ⟨[_, _, _], rfl, ⟨_, _, rfl, rfl, _, _, rfl, ⟨w.heap.size, by simp only [Names.add, ↓reduceIte], rfl⟩, _, _, rfl, rfl, rfl⟩, fun x hx => by simp only [List.mem_cons, List.not_mem_nil, or_false] at hx; rcases hx with rfl | rfl | rfl <;> rfl⟩
theorem typePEr (a : Addr) (w : World) : (ReflectliteValue.methodAny (ReflectliteValue.valueError "reflectlite.Value.Type" 0) (fun t _ _ _ => ReflectliteType.toType t) #[.agg #[tyV 88, .pointer (some a), .int .u64 150]]).run Tryd.prog w = .ok (.iface 122 (.agg #[tyV 88])) w := by kernel_rfl
theorem rlTypePEr {k off : Nat} (h : K (rtD 88) S) : DCalls Tryd.prog 74 [.agg [.v (tyV 88), .loc k off, .v (.int .u64 150)]] S K :=
  dext (e := ReflectliteValue.methodAny (ReflectliteValue.valueError "reflectlite.Value.Type" 0) (fun t _ _ _ => ReflectliteType.toType t)) Tryd.func74 (by kernel_rfl) (by kernel_rfl) (by kernel_rfl) (by kernel_rfl) fun base η w vs hM hr => by
    simp only [RepL, Rep] at hr
    obtain ⟨_, _, rfl, ⟨_, rfl, ⟨_, _, rfl, rfl, _, _, rfl, ⟨b, hb, rfl⟩, _, _, rfl, rfl, rfl⟩, _⟩, rfl⟩ := hr
    exact ⟨_, S, η, _, w, typePEr _ w, h, (rep_val_iff (d := rtD 88) rfl).2 rfl, Goes.refl hM⟩
theorem partsPEr (a : Addr) (w : World) : (ReflectliteValue.parts (.agg #[tyV 88, .pointer (some a), .int .u64 150])).run Tryd.prog w = .ok (some (88, a, 150)) w := by kernel_rfl
theorem rlIsNilPEr {b k off : Nat} (hb : S.ob b = some (.box 88 [.loc k off])) (h : K (.v (.bool false)) S) : DCalls Tryd.prog 75 [.agg [.v (tyV 88), .loc b 0, .v (.int .u64 150)]] S K :=
  dext (e := ReflectliteValue.method (ReflectliteValue.valueError "reflectlite.Value.IsNil" 0) ReflectliteValue.isNil) Tryd.func75 (by kernel_rfl) (by kernel_rfl) (by kernel_rfl) (by kernel_rfl) fun base η w vs hM hr => by
    simp only [RepL, Rep] at hr
    obtain ⟨_, _, rfl, ⟨_, rfl, ⟨_, _, rfl, rfl, _, _, rfl, ⟨q, hq, rfl⟩, _, _, rfl, rfl, rfl⟩, _⟩, rfl⟩ := hr
    obtain ⟨us, g1, g2, g3⟩ := hM.box b _ _ q hb hq
    simp only [RepL, Rep] at g2
    obtain ⟨_, _, rfl, ⟨p, hp, rfl⟩, rfl⟩ := g2
    have ha : w.cell? ⟨q, 0, none⟩ = some (.pointer (some ⟨p, off, none⟩)) := by simp [World.cell?, g1]
    refine ⟨_, S, η, .bool false, w, ?_, h, by simp only [Rep], Goes.refl hM⟩
    rw [rlm]
    simp only [Sem.run_bind, partsPEr, Result.andThen]
    simp [ReflectliteValue.isNil, loadVar, isAgg, underlying, Tryd.underlying88, ha, Result.andThen]
theorem elemOfPEr (w : World) : (Rtype.elem? 88).run Tryd.prog w = .ok (some 25) w := by kernel_rfl
theorem mkPEr (p : Addr) (w : World) : (ReflectliteValue.mk 25 p ReflectliteValue.flagAddr).run Tryd.prog w = .ok (.agg #[tyV 25, .pointer (some p), .int .u64 386]) w := by kernel_rfl
theorem rlElemPEr {b k off : Nat} (hb : S.ob b = some (.box 88 [.loc k off])) (h : K (.agg [.v (tyV 25), .loc k off, .v (.int .u64 386)]) S) : DCalls Tryd.prog 84 [.agg [.v (tyV 88), .loc b 0, .v (.int .u64 150)]] S K :=
  dext (e := ReflectliteValue.method (ReflectliteValue.valueError "reflectlite.Value.Elem" 0) ReflectliteValue.elem) Tryd.func84 (by kernel_rfl) (by kernel_rfl) (by kernel_rfl) (by kernel_rfl) fun base η w vs hM hr => by
    simp only [RepL, Rep] at hr
    obtain ⟨_, _, rfl, ⟨_, rfl, ⟨_, _, rfl, rfl, _, _, rfl, ⟨q, hq, rfl⟩, _, _, rfl, rfl, rfl⟩, _⟩, rfl⟩ := hr
    obtain ⟨us, g1, g2, g3⟩ := hM.box b _ _ q hb hq
    simp only [RepL, Rep] at g2
    obtain ⟨_, _, rfl, ⟨p, hp, rfl⟩, rfl⟩ := g2
    have ha : w.cell? ⟨q, 0, none⟩ = some (.pointer (some ⟨p, off, none⟩)) := by simp [World.cell?, g1]
    refine ⟨_, S, η, .agg #[tyV 25, .pointer (some ⟨p, off, none⟩), .int .u64 386], w, ?_, h, ?_, Goes.refl hM⟩
    · rw [rlm]
      simp only [Sem.run_bind, partsPEr, Result.andThen]
      simp [ReflectliteValue.elem, loadVar, isAgg, underlying, Tryd.underlying88, ha, Result.andThen, elemOfPEr, mkPEr]
    · simp only [Rep, RepL]
      exact ⟨[_, _, _], rfl, ⟨_, _, rfl, rfl, _, _, rfl, ⟨p, hp, rfl⟩, _, _, rfl, rfl, rfl⟩, fun x hx => by simp only [List.mem_cons, List.not_mem_nil, or_false] at hx; rcases hx with rfl | rfl | rfl <;> rfl⟩
theorem methKindPEr : DMeth Tryd.prog 122 (tyD 88) "Kind" 118 (.v (tyV 88)) := dmeth_pure rfl rfl fun w => by kernel_rfl
theorem methKindEr : DMeth Tryd.prog 122 (tyD 25) "Kind" 118 (.v (tyV 25)) := dmeth_pure rfl rfl fun w => by kernel_rfl
theorem rlKindPEr (h : K (.v (.int .u8 22)) S) : DCalls Tryd.prog 118 [.v (tyV 88)] S K :=
  dext_pure (e := ReflectliteType.abiMethod fun t => do pure (.int .u8 (← Rtype.kind t))) Tryd.func118 (by kernel_rfl) (by kernel_rfl) (by kernel_rfl) (by kernel_rfl) (r := .int .u8 22) rfl (fun w => by kernel_rfl) rfl h
theorem rlKindEr (h : K (.v (.int .u8 2)) S) : DCalls Tryd.prog 118 [.v (tyV 25)] S K :=
  dext_pure (e := ReflectliteType.abiMethod fun t => do pure (.int .u8 (← Rtype.kind t))) Tryd.func118 (by kernel_rfl) (by kernel_rfl) (by kernel_rfl) (by kernel_rfl) (r := .int .u8 2) rfl (fun w => by kernel_rfl) rfl h
theorem methElemPEr : DMeth Tryd.prog 122 (tyD 88) "Elem" 131 (tyD 88) := dmeth_pure rfl rfl fun w => by kernel_rfl
theorem rlTElemPEr (h : K (rtD 25) S) : DCalls Tryd.prog 131 [tyD 88] S K :=
  dext_pure (e := ReflectliteType.method ReflectliteType.elem) Tryd.func131 (by kernel_rfl) (by kernel_rfl) (by kernel_rfl) (by kernel_rfl) (r := .iface 122 (.agg #[tyV 25])) rfl (fun w => by kernel_rfl) rfl h
theorem methImplEr : DMeth Tryd.prog 122 (tyD 25) "Implements" 132 (tyD 25) := dmeth_pure rfl rfl fun w => by kernel_rfl
theorem rlImplEr (h : K (.v (.bool true)) S) : DCalls Tryd.prog 132 [tyD 25, rtD 35] S K :=
  dext_pure (e := ReflectliteType.relation "Implements" ReflectliteType.implements_) Tryd.func132 (by kernel_rfl) (by kernel_rfl) (by kernel_rfl) (by kernel_rfl) (r := .bool true) rfl (fun w => by kernel_rfl) rfl h
theorem methAsgEr : DMeth Tryd.prog 122 (tyD 25) "AssignableTo" 129 (tyD 25) := dmeth_pure rfl rfl fun w => by kernel_rfl
theorem rlAsgEr (h : K (.v (.bool true)) S) : DCalls Tryd.prog 129 [tyD 25, rtD 25] S K :=
  dext_pure (e := ReflectliteType.relation "AssignableTo" ReflectliteType.assignableTo) Tryd.func129 (by kernel_rfl) (by kernel_rfl) (by kernel_rfl) (by kernel_rfl) (r := .bool true) rfl (fun w => by kernel_rfl) rfl h
theorem typeOfEr (x : Value) (w : World) : (ReflectliteType.typeOf #[.iface 25 x]).run Tryd.prog w = .ok (.iface 122 (.agg #[tyV 25])) w := by kernel_rfl
theorem rlTypeOfEr {d : D} (h : K (rtD 25) S) : DCalls Tryd.prog 83 [.ifc 25 d] S K :=
  dext (e := ReflectliteType.typeOf) Tryd.func83 (by kernel_rfl) (by kernel_rfl) (by kernel_rfl) (by kernel_rfl) fun base η w vs hM hr => by
    simp only [RepL, Rep] at hr
    obtain ⟨_, _, rfl, ⟨x, rfl, _⟩, rfl⟩ := hr
    exact ⟨_, S, η, _, w, typeOfEr x w, h, (rep_val_iff (d := rtD 25) rfl).2 rfl, Goes.refl hM⟩
end


section
variable {S : St} {K : D → St → Prop}
theorem unpackPAt (a : Addr) (w : World) : (ReflectliteValue.unpack (.iface 118 (.pointer (some a)))).run Tryd.prog w = .ok (.agg #[tyV 118, .pointer (some ⟨w.heap.size, 0, none⟩), .int .u64 150]) (w.alloc (.cells #[.pointer (some a)] 118)) := by kernel_rfl
theorem rlValueOfPAt {k off : Nat} (h : K (.agg [.v (tyV 118), .loc S.next 0, .v (.int .u64 150)]) (S.add (.box 118 [.loc k off]))) : DCalls Tryd.prog 73 [.ifc 118 (.loc k off)] S K :=
  dext (e := fun args => ReflectliteValue.unpack (args.getD 0 (.tuple #[]))) Tryd.func73 (by kernel_rfl) (by kernel_rfl) (by kernel_rfl) (by kernel_rfl) fun base η w vs hM hr => by
    simp only [RepL, Rep] at hr
    obtain ⟨_, _, rfl, ⟨_, rfl, b, hb, rfl⟩, rfl⟩ := hr
    have G := goes_name hM (.box 118 [.loc k off]) #[.pointer (some ⟨b, off, none⟩)] 118 (.inl ⟨_, [.pointer (some ⟨b, off, none⟩)], rfl, rfl, by simp only [RepL, Rep]; exact ⟨_, _, rfl, ⟨b, hb, rfl⟩, rfl⟩, fun x hx => by rw [List.mem_singleton] at hx; subst hx; rfl⟩)
    refine ⟨_, _, _, _, _, unpackPAt _ w, h, ?_, G⟩
    simp only [Rep, RepL]
    exact ⟨[_, _, _], rfl, ⟨_, _, rfl, rfl, _, _, rfl, ⟨w.heap.size, by simp only [Names.add, ↓reduceIte], rfl⟩, _, _, rfl, rfl, rfl⟩, fun x hx => by simp only [List.mem_cons, List.not_mem_nil, or_false] at hx; rcases hx with rfl | rfl | rfl <;> rfl⟩
theorem typePAt (a : Addr) (w : World) : (ReflectliteValue.methodAny (ReflectliteValue.valueError "reflectlite.Value.Type" 0) (fun t _ _ _ => ReflectliteType.toType t) #[.agg #[tyV 118, .pointer (some a), .int .u64 150]]).run Tryd.prog w = .ok (.iface 122 (.agg #[tyV 118])) w := by kernel_rfl
theorem rlTypePAt {k off : Nat} (h : K (rtD 118) S) : DCalls Tryd.prog 74 [.agg [.v (tyV 118), .loc k off, .v (.int .u64 150)]] S K :=
  dext (e := ReflectliteValue.methodAny (ReflectliteValue.valueError "reflectlite.Value.Type" 0) (fun t _ _ _ => ReflectliteType.toType t)) Tryd.func74 (by kernel_rfl) (by kernel_rfl) (by kernel_rfl) (by kernel_rfl) fun base η w vs hM hr => by
    simp only [RepL, Rep] at hr
    obtain ⟨_, _, rfl, ⟨_, rfl, ⟨_, _, rfl, rfl, _, _, rfl, ⟨b, hb, rfl⟩, _, _, rfl, rfl, rfl⟩, _⟩, rfl⟩ := hr
    exact ⟨_, S, η, _, w, typePAt _ w, h, (rep_val_iff (d := rtD 118) rfl).2 rfl, Goes.refl hM⟩
theorem partsPAt (a : Addr) (w : World) : (ReflectliteValue.parts (.agg #[tyV 118, .pointer (some a), .int .u64 150])).run Tryd.prog w = .ok (some (118, a, 150)) w := by kernel_rfl
theorem rlIsNilPAt {b k off : Nat} (hb : S.ob b = some (.box 118 [.loc k off])) (h : K (.v (.bool false)) S) : DCalls Tryd.prog 75 [.agg [.v (tyV 118), .loc b 0, .v (.int .u64 150)]] S K :=
  dext (e := ReflectliteValue.method (ReflectliteValue.valueError "reflectlite.Value.IsNil" 0) ReflectliteValue.isNil) Tryd.func75 (by kernel_rfl) (by kernel_rfl) (by kernel_rfl) (by kernel_rfl) fun base η w vs hM hr => by
    simp only [RepL, Rep] at hr
    obtain ⟨_, _, rfl, ⟨_, rfl, ⟨_, _, rfl, rfl, _, _, rfl, ⟨q, hq, rfl⟩, _, _, rfl, rfl, rfl⟩, _⟩, rfl⟩ := hr
    obtain ⟨us, g1, g2, g3⟩ := hM.box b _ _ q hb hq
    simp only [RepL, Rep] at g2
    obtain ⟨_, _, rfl, ⟨p, hp, rfl⟩, rfl⟩ := g2
    have ha : w.cell? ⟨q, 0, none⟩ = some (.pointer (some ⟨p, off, none⟩)) := by simp [World.cell?, g1]
    refine ⟨_, S, η, .bool false, w, ?_, h, by simp only [Rep], Goes.refl hM⟩
    rw [rlm]
    simp only [Sem.run_bind, partsPAt, Result.andThen]
    simp [ReflectliteValue.isNil, loadVar, isAgg, underlying, Tryd.underlying118, ha, Result.andThen]
theorem elemOfPAt (w : World) : (Rtype.elem? 118).run Tryd.prog w = .ok (some 91) w := by kernel_rfl
theorem mkPAt (p : Addr) (w : World) : (ReflectliteValue.mk 91 p ReflectliteValue.flagAddr).run Tryd.prog w = .ok (.agg #[tyV 91, .pointer (some p), .int .u64 406]) w := by kernel_rfl
theorem rlElemPAt {b k off : Nat} (hb : S.ob b = some (.box 118 [.loc k off])) (h : K (.agg [.v (tyV 91), .loc k off, .v (.int .u64 406)]) S) : DCalls Tryd.prog 84 [.agg [.v (tyV 118), .loc b 0, .v (.int .u64 150)]] S K :=
  dext (e := ReflectliteValue.method (ReflectliteValue.valueError "reflectlite.Value.Elem" 0) ReflectliteValue.elem) Tryd.func84 (by kernel_rfl) (by kernel_rfl) (by kernel_rfl) (by kernel_rfl) fun base η w vs hM hr => by
    simp only [RepL, Rep] at hr
    obtain ⟨_, _, rfl, ⟨_, rfl, ⟨_, _, rfl, rfl, _, _, rfl, ⟨q, hq, rfl⟩, _, _, rfl, rfl, rfl⟩, _⟩, rfl⟩ := hr
    obtain ⟨us, g1, g2, g3⟩ := hM.box b _ _ q hb hq
    simp only [RepL, Rep] at g2
    obtain ⟨_, _, rfl, ⟨p, hp, rfl⟩, rfl⟩ := g2
    have ha : w.cell? ⟨q, 0, none⟩ = some (.pointer (some ⟨p, off, none⟩)) := by simp [World.cell?, g1]
    refine ⟨_, S, η, .agg #[tyV 91, .pointer (some ⟨p, off, none⟩), .int .u64 406], w, ?_, h, ?_, Goes.refl hM⟩
    · rw [rlm]
      simp only [Sem.run_bind, partsPAt, Result.andThen]
      simp [ReflectliteValue.elem, loadVar, isAgg, underlying, Tryd.underlying118, ha, Result.andThen, elemOfPAt, mkPAt]
    · simp only [Rep, RepL]
      exact ⟨[_, _, _], rfl, ⟨_, _, rfl, rfl, _, _, rfl, ⟨p, hp, rfl⟩, _, _, rfl, rfl, rfl⟩, fun x hx => by simp only [List.mem_cons, List.not_mem_nil, or_false] at hx; rcases hx with rfl | rfl | rfl <;> rfl⟩
theorem methKindPAt : DMeth Tryd.prog 122 (tyD 118) "Kind" 118 (.v (tyV 118)) := dmeth_pure rfl rfl fun w => by kernel_rfl
theorem methKindAt : DMeth Tryd.prog 122 (tyD 91) "Kind" 118 (.v (tyV 91)) := dmeth_pure rfl rfl fun w => by kernel_rfl
theorem rlKindPAt (h : K (.v (.int .u8 22)) S) : DCalls Tryd.prog 118 [.v (tyV 118)] S K :=
  dext_pure (e := ReflectliteType.abiMethod fun t => do pure (.int .u8 (← Rtype.kind t))) Tryd.func118 (by kernel_rfl) (by kernel_rfl) (by kernel_rfl) (by kernel_rfl) (r := .int .u8 22) rfl (fun w => by kernel_rfl) rfl h
theorem rlKindAt (h : K (.v (.int .u8 22)) S) : DCalls Tryd.prog 118 [.v (tyV 91)] S K :=
  dext_pure (e := ReflectliteType.abiMethod fun t => do pure (.int .u8 (← Rtype.kind t))) Tryd.func118 (by kernel_rfl) (by kernel_rfl) (by kernel_rfl) (by kernel_rfl) (r := .int .u8 22) rfl (fun w => by kernel_rfl) rfl h
theorem methElemPAt : DMeth Tryd.prog 122 (tyD 118) "Elem" 131 (tyD 118) := dmeth_pure rfl rfl fun w => by kernel_rfl
theorem rlTElemPAt (h : K (rtD 91) S) : DCalls Tryd.prog 131 [tyD 118] S K :=
  dext_pure (e := ReflectliteType.method ReflectliteType.elem) Tryd.func131 (by kernel_rfl) (by kernel_rfl) (by kernel_rfl) (by kernel_rfl) (r := .iface 122 (.agg #[tyV 91])) rfl (fun w => by kernel_rfl) rfl h
theorem methImplAt : DMeth Tryd.prog 122 (tyD 91) "Implements" 132 (tyD 91) := dmeth_pure rfl rfl fun w => by kernel_rfl
theorem rlImplAt (h : K (.v (.bool true)) S) : DCalls Tryd.prog 132 [tyD 91, rtD 35] S K :=
  dext_pure (e := ReflectliteType.relation "Implements" ReflectliteType.implements_) Tryd.func132 (by kernel_rfl) (by kernel_rfl) (by kernel_rfl) (by kernel_rfl) (r := .bool true) rfl (fun w => by kernel_rfl) rfl h
theorem methAsgAt : DMeth Tryd.prog 122 (tyD 91) "AssignableTo" 129 (tyD 91) := dmeth_pure rfl rfl fun w => by kernel_rfl
theorem rlAsgAt (h : K (.v (.bool true)) S) : DCalls Tryd.prog 129 [tyD 91, rtD 91] S K :=
  dext_pure (e := ReflectliteType.relation "AssignableTo" ReflectliteType.assignableTo) Tryd.func129 (by kernel_rfl) (by kernel_rfl) (by kernel_rfl) (by kernel_rfl) (r := .bool true) rfl (fun w => by kernel_rfl) rfl h
theorem typeOfAt (x : Value) (w : World) : (ReflectliteType.typeOf #[.iface 91 x]).run Tryd.prog w = .ok (.iface 122 (.agg #[tyV 91])) w := by kernel_rfl
theorem rlTypeOfAt {d : D} (h : K (rtD 91) S) : DCalls Tryd.prog 83 [.ifc 91 d] S K :=
  dext (e := ReflectliteType.typeOf) Tryd.func83 (by kernel_rfl) (by kernel_rfl) (by kernel_rfl) (by kernel_rfl) fun base η w vs hM hr => by
    simp only [RepL, Rep] at hr
    obtain ⟨_, _, rfl, ⟨x, rfl, _⟩, rfl⟩ := hr
    exact ⟨_, S, η, _, w, typeOfAt x w, h, (rep_val_iff (d := rtD 91) rfl).2 rfl, Goes.refl hM⟩
end

end Go.Proofs.YtbcabejdchkpmaaDoor
