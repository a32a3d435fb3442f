/- Texts of a proof, part 4. Conditions: none. -/
import Derived.Test.YtbcabejdchkpmaaGreatDoorV3
import Derived.Test.YtbcabejdchkpmaaGreatDoorProg
import Derived.KernelRfl
set_option linter.unusedVariables false
set_option linter.unusedSimpArgs false
namespace Go.Proofs.YtbcabejdchkpmaaGreatDoor
open Go.RowKit

theorem put_eq (f : Fm) (t : Tmp) (d : D) : put f (some t) d t = d := by simp [put]
theorem put_ne (f : Fm) (t : Tmp) (d : D) (i : Nat) (h : (i == t) = false) : put f (some t) d i = f i := by
  have : Nat.beq i t = false := by
    cases hb : Nat.beq i t with
    | false => rfl
    | true => rw [Nat.eq_of_beq_eq_true hb] at h; simp at h
  simp [put, this]
theorem put_none (f : Fm) (d : D) : put f none d = f := Eq.trans (Eq.refl _) (Eq.refl _)
theorem argF_nil (t : Nat) : argF [] t = undefD := Eq.trans (Eq.refl _) (Eq.refl _)
theorem argF_zero (d : D) (l : List D) : argF (d :: l) 0 = d := Eq.trans (Eq.refl _) (Eq.refl _)
theorem argF_succ (d : D) (l : List D) (t : Nat) : argF (d :: l) (t + 1) = argF l t := Eq.trans (Eq.refl _) (Eq.refl _)
section
variable {P : Program} {x y : Operand} {t : TypeId}
theorem pureRun_bind {α β : Type} (s : Sem α) (g : α → Sem β) : pureRun P (s >>= g) = (pureRun P s).bind fun a => pureRun P (g a) := by
  show pureRun P (Sem.bind s g) = _
  induction s with
  | pure a => rfl
  | program k ih => simp only [Sem.bind, pureRun]; exact ih _
  | mark m k ih => simp only [Sem.bind, pureRun]; exact ih
  | _ => rfl
theorem pureRun_pure {α : Type} (a : α) : pureRun P (pure a : Sem α) = some a := Eq.trans (Eq.refl _) (Eq.refl _)
theorem ofV_int (k : IntKind) (n : Int) : ofV (.int k n) = .v (.int k n) := Eq.trans (Eq.refl _) (Eq.refl _)
theorem ofV_bool (b : Bool) : ofV (.bool b) = .v (.bool b) := Eq.trans (Eq.refl _) (Eq.refl _)
theorem ofV_string (s : ByteArray) : ofV (.string s) = .v (.string s) := Eq.trans (Eq.refl _) (Eq.refl _)
theorem ofV_nil : ofV (.slice none 0 0) = .sl .full [] := Eq.trans (Eq.refl _) (Eq.refl _)
theorem ofV_iface : ofV .nilIface = .v .nilIface := Eq.trans (Eq.refl _) (Eq.refl _)
theorem ofV_func : ofV .nilFunc = .v .nilFunc := Eq.trans (Eq.refl _) (Eq.refl _)
theorem ofV_ptr (a : Option Addr) : ofV (.pointer a) = .v (.pointer a) := Eq.trans (Eq.refl _) (Eq.refl _)
/-! Operations on plain values. -/
theorem bin_add (k : IntKind) (a b : Int) : dbin P .add t x y (.v (.int k a)) (.v (.int k b)) = some (True, .v (.int k (k.wrap (a + b)))) := by
  simp [dbin, eqGuard, binOp, Op.intArith, pureRun_bind, pureRun_pure]
theorem bin_sub (k : IntKind) (a b : Int) : dbin P .sub t x y (.v (.int k a)) (.v (.int k b)) = some (True, .v (.int k (k.wrap (a - b)))) := by
  simp [dbin, eqGuard, binOp, Op.intArith, pureRun_bind, pureRun_pure]
theorem bin_mul (k : IntKind) (a b : Int) : dbin P .mul t x y (.v (.int k a)) (.v (.int k b)) = some (True, .v (.int k (k.wrap (a * b)))) := by
  simp [dbin, eqGuard, binOp, Op.intArith, pureRun_bind, pureRun_pure]
theorem bin_eql (k : IntKind) (a b : Int) : dbin P .eql t x y (.v (.int k a)) (.v (.int k b)) = some (True, .v (.bool (a == b))) := by
  simp [dbin, eqGuard, binOp, Op.intCmp, pureRun_bind, pureRun_pure]
theorem bin_neq (k : IntKind) (a b : Int) : dbin P .neq t x y (.v (.int k a)) (.v (.int k b)) = some (True, .v (.bool (a != b))) := by
  simp [dbin, eqGuard, binOp, Op.intCmp, pureRun_bind, pureRun_pure]
theorem bin_lss (k : IntKind) (a b : Int) : dbin P .lss t x y (.v (.int k a)) (.v (.int k b)) = some (True, .v (.bool (decide (a < b)))) := by
  simp [dbin, eqGuard, binOp, Op.intCmp, pureRun_bind, pureRun_pure]
theorem bin_leq (k : IntKind) (a b : Int) : dbin P .leq t x y (.v (.int k a)) (.v (.int k b)) = some (True, .v (.bool (decide (a ≤ b)))) := by
  simp [dbin, eqGuard, binOp, Op.intCmp, pureRun_bind, pureRun_pure]
theorem bin_gtr (k : IntKind) (a b : Int) : dbin P .gtr t x y (.v (.int k a)) (.v (.int k b)) = some (True, .v (.bool (decide (b < a)))) := by
  simp [dbin, eqGuard, binOp, Op.intCmp, pureRun_bind, pureRun_pure]
theorem bin_geq (k : IntKind) (a b : Int) : dbin P .geq t x y (.v (.int k a)) (.v (.int k b)) = some (True, .v (.bool (decide (b ≤ a)))) := by
  simp [dbin, eqGuard, binOp, Op.intCmp, pureRun_bind, pureRun_pure]
theorem bin_leql (k off : Nat) : dbin P .eql t x y (.loc k off) (.v (.pointer none)) = some (ptrT P t = true, .v (.bool false)) := Eq.trans (Eq.refl _) (Eq.refl _)
theorem bin_lneq (k off : Nat) : dbin P .neq t x y (.loc k off) (.v (.pointer none)) = some (ptrT P t = true, .v (.bool true)) := Eq.trans (Eq.refl _) (Eq.refl _)
theorem bin_ieql (u : TypeId) (d : D) : dbin P .eql t x y (.ifc u d) (.v .nilIface) = some (ifaceT P t = true, .v (.bool false)) := Eq.trans (Eq.refl _) (Eq.refl _)
theorem bin_ineq (u : TypeId) (d : D) : dbin P .neq t x y (.ifc u d) (.v .nilIface) = some (ifaceT P t = true, .v (.bool true)) := Eq.trans (Eq.refl _) (Eq.refl _)
theorem bin_ifc (t1 t2 : TypeId) (a b : D) : dbin P .eql t x y (.ifc t1 a) (.ifc t2 b) = some (IfcEq P t x y t1 a t2 b, .v (.bool (ifcB t1 a t2 b))) := Eq.trans (Eq.refl _) (Eq.refl _)
theorem bin_seql (a b : ByteArray) : dbin P .eql t x y (.v (.string a)) (.v (.string b)) = some (True, .v (.bool (a.toList == b.toList))) := by
  simp [dbin, eqGuard, binOp, Op.stringOp, pureRun_bind, pureRun_pure]
theorem bin_sneq (a b : ByteArray) : dbin P .neq t x y (.v (.string a)) (.v (.string b)) = some (True, .v (.bool (!(a.toList == b.toList)))) := by
  simp [dbin, eqGuard, binOp, Op.stringOp, pureRun_bind, pureRun_pure]
theorem bin_slss (a b : ByteArray) : dbin P .lss t x y (.v (.string a)) (.v (.string b)) = some (True, .v (.bool (Op.bytesLess a.toList b.toList))) := by
  simp [dbin, eqGuard, binOp, Op.stringOp, pureRun_bind, pureRun_pure]
theorem bin_sgtr (a b : ByteArray) : dbin P .gtr t x y (.v (.string a)) (.v (.string b)) = some (True, .v (.bool (!(Op.bytesLess a.toList b.toList || a.toList == b.toList)))) := by
  simp [dbin, eqGuard, binOp, Op.stringOp, pureRun_bind, pureRun_pure]
theorem bin_sleq (a b : ByteArray) : dbin P .leq t x y (.v (.string a)) (.v (.string b)) = some (True, .v (.bool (Op.bytesLess a.toList b.toList || a.toList == b.toList))) := by
  simp [dbin, eqGuard, binOp, Op.stringOp, pureRun_bind, pureRun_pure]
theorem bin_sgeq (a b : ByteArray) : dbin P .geq t x y (.v (.string a)) (.v (.string b)) = some (True, .v (.bool (!Op.bytesLess a.toList b.toList))) := by
  simp [dbin, eqGuard, binOp, Op.stringOp, pureRun_bind, pureRun_pure]
theorem un_not (b : Bool) : pureRun P (Op.unary .not (.bool b)) = some (.bool (!b)) := Eq.trans (Eq.refl _) (Eq.refl _)
theorem un_neg (k : IntKind) (n : Int) : pureRun P (Op.unary .neg (.int k n)) = some (.int k (k.wrap (0 - n))) := Eq.trans (Eq.refl _) (Eq.refl _)
theorem bu_len (own : Own) (es : List D) (t ty : TypeId) (cs : Array Bool) {e : TypeId} (h : elT P t = some e) : dbuiltin P .len #[t] ty cs [.sl own es] = some (True, .v (.int .i64 es.length)) := by
  simp [dbuiltin, vals, dlen, h]
theorem bu_wlen (k off n c : Nat) (t ty : TypeId) (cs : Array Bool) {e : TypeId} (h : elT P t = some e) : dbuiltin P .len #[t] ty cs [.win k off n c] = some (True, .v (.int .i64 n)) := by
  simp [dbuiltin, vals, dlen, h]
theorem bu_wcap (k off n c : Nat) (t ty : TypeId) (cs : Array Bool) {e : TypeId} (h : elT P t = some e) : dbuiltin P .cap #[t] ty cs [.win k off n c] = some (True, .v (.int .i64 c)) := by
  simp [dbuiltin, vals, dlen, h]
theorem bu_slen (s : ByteArray) (t ty : TypeId) (cs : Array Bool) (h : strT P t = true) : dbuiltin P .len #[t] ty cs [.v (.string s)] = some (True, .v (.int .i64 s.size)) := by
  have hu := strT_spec h
  simp [dbuiltin, vals, builtin, Builtin.len_, pureRun_bind, pureRun_pure, underlying, program, pureRun, hu, goInt]
theorem bu_max (k : IntKind) (a b : Int) (ts : Array TypeId) (ty : TypeId) (cs : Array Bool) : dbuiltin P .max ts ty cs [.v (.int k a), .v (.int k b)] = some (True, .v (.int k (if a < b then b else a))) := by
  simp [dbuiltin, vals, builtin, Builtin.max_, Builtin.max2, pureRun_bind, pureRun_pure]
theorem bu_min (k : IntKind) (a b : Int) (ts : Array TypeId) (ty : TypeId) (cs : Array Bool) : dbuiltin P .min ts ty cs [.v (.int k a), .v (.int k b)] = some (True, .v (.int k (if b < a then b else a))) := by
  simp [dbuiltin, vals, builtin, Builtin.min_, Builtin.min2, pureRun_bind, pureRun_pure]
end

theorem globAt_eq : globAt 0 = some (.ifc 94 (.agg [.v (.pointer (some ⟨1, 31, none⟩))])) := rfl
attribute [go_sem] globAt_eq
/-! The walk, step by step; what follows stands behind a name till it is come to. -/
section
variable {P : Program} {Q : DQ} {f : Fm} {S : St}
def dwpF (P : Program) (c : Code) (Q : DQ) (f : Fm) (S : St) : Prop := dwp P c Q f S
def dIf (c : D) (x y : Prop) : Prop := match c with
  | .v (.bool b) => (b = true → x) ∧ (b = false → y)
  | _ => False
theorem dwp_skip : dwp P .skip Q f S = Q .normal f S := Eq.trans (Eq.refl _) (Eq.refl _)
theorem dwp_label (l : Nat) : dwp P (.label l) Q f S = Q .normal f S := Eq.trans (Eq.refl _) (Eq.refl _)
theorem dwp_exit (i : Nat) : dwp P (.exit i) Q f S = Q (.exit i) f S := Eq.trans (Eq.refl _) (Eq.refl _)
theorem dwp_ret : dwp P .ret Q f S = Q .ret f S := Eq.trans (Eq.refl _) (Eq.refl _)
theorem dwp_seq (x y : Code) : dwp P (.seq x y) Q f S = dwp P x (DQ.then (dwp P y Q) Q) f S := Eq.trans (Eq.refl _) (Eq.refl _)
theorem dwp_block (id : Nat) (c : Code) : dwp P (.block id c) Q f S = dwp P c (DQ.block id Q) f S := Eq.trans (Eq.refl _) (Eq.refl _)
theorem dwp_loop (c : Code) : dwp P (.loop c) Q f S = DLoop (dwp P c) Q f S := Eq.trans (Eq.refl _) (Eq.refl _)
theorem dwp_cond (c : Operand) (x y : Code) : dwp P (.cond c x y) Q f S = dIf (ev f c) (dwpF P x Q f S) (dwpF P y Q f S) := by
  unfold dwp dIf dwpF
  rfl
theorem dwp_region (id : Nat) (l : List Oper) : dwp P (.region id (List.toArray l) false) Q f S = dops P (List.toArray l) (Q .normal) l f S := Eq.trans (Eq.refl _) (Eq.refl _)
theorem dwp_draw (id : Nat) (l : List Oper) : dwp P (.region id (List.toArray l) true) Q f S = ddraw P l (Q .normal) f S := Eq.trans (Eq.refl _) (Eq.refl _)
theorem then_normal (k : Fm → St → Prop) : DQ.then k Q .normal f S = k f S := Eq.trans (Eq.refl _) (Eq.refl _)
theorem then_exit (k : Fm → St → Prop) (i : Nat) : DQ.then k Q (.exit i) f S = Q (.exit i) f S := Eq.trans (Eq.refl _) (Eq.refl _)
theorem then_ret (k : Fm → St → Prop) : DQ.then k Q .ret f S = Q .ret f S := Eq.trans (Eq.refl _) (Eq.refl _)
theorem block_normal (id : Nat) : DQ.block id Q .normal f S = Q .normal f S := Eq.trans (Eq.refl _) (Eq.refl _)
theorem block_ret (id : Nat) : DQ.block id Q .ret f S = Q .ret f S := Eq.trans (Eq.refl _) (Eq.refl _)
theorem block_eq (id : Nat) : DQ.block id Q (.exit id) f S = Q .normal f S := by simp [DQ.block]
theorem block_ne (i id : Nat) (h : (i == id) = false) : DQ.block id Q (.exit i) f S = Q (.exit i) f S := by
  have : Nat.beq i id = false := by
    cases hb : Nat.beq i id with
    | false => rfl
    | true => rw [Nat.eq_of_beq_eq_true hb] at h; simp at h
  simp [DQ.block, this]
def dnext (P : Program) (ops : Array Oper) (R : Fm → St → Prop) (r : List Oper) (f : Fm) (dst : Option Tmp) (d : D) (S : St) : Prop := dops P ops R r (put f dst d) S
theorem dnext_eq (ops : Array Oper) (R : Fm → St → Prop) (r : List Oper) (dst : Option Tmp) (d : D) : dnext P ops R r f dst d S = dops P ops R r (put f dst d) S := Eq.trans (Eq.refl _) (Eq.refl _)
def dskip (P : Program) (ops : Array Oper) (R : Fm → St → Prop) (r : List Oper) (f : Fm) (dst : Option Tmp) (S : St) : Prop := dops P ops R r (put f dst undefD) S
def dopF (P : Program) (f : Fm) (S : St) (ty : TypeId) (op : Op) (K : D → St → Prop) : Prop := dop P f S ty op K
def gtmp : List Oper → Nat → Option Tmp
  | [], _ => none
  | o :: _, 0 => o.dst
  | _ :: l, n + 1 => gtmp l n
theorem gtmp_eq : ∀ (l : List Oper) (n : Nat), ((List.toArray l)[n]?).bind (·.dst) = gtmp l n
  | [], n => by simp [gtmp]
  | o :: l, 0 => by simp [gtmp]
  | o :: l, n + 1 => by have := gtmp_eq l n; simpa [gtmp] using this
theorem gtmp_zero (dst : Option Tmp) (op : Op) (ty : TypeId) (pos : String) (after : Array Edge) (g : Option (Nat × Bool)) (l : List Oper) : gtmp (⟨dst, op, ty, pos, after, g⟩ :: l) 0 = dst := Eq.trans (Eq.refl _) (Eq.refl _)
theorem gtmp_succ (o : Oper) (l : List Oper) (n : Nat) : gtmp (o :: l) (n + 1) = gtmp l n := Eq.trans (Eq.refl _) (Eq.refl _)
def dguardT (t : Option Tmp) (f : Fm) (want : Bool) (y n : Prop) : Prop := match t with
  | some t => match f t with
    | .v (.bool b) => (b = want → y) ∧ (b = !want → n)
    | .tup [] => n
    | _ => False
  | none => False
def dguard (x : D) (want : Bool) (y n : Prop) : Prop := match x with
  | .v (.bool b) => (b = want → y) ∧ (b = !want → n)
  | .tup [] => n
  | _ => False
theorem dguardT_some (t : Tmp) (want : Bool) (y n : Prop) : dguardT (some t) f want y n = dguard (f t) want y n := Eq.trans (Eq.refl _) (Eq.refl _)
section
variable {y n : Prop} {ty : TypeId} {op : Op} {K : D → St → Prop} {ops : Array Oper} {R : Fm → St → Prop} {r : List Oper} {dst : Option Tmp}
theorem dg_tt : dguard (.v (.bool true)) true (dopF P f S ty op K) n = dop P f S ty op K := by simp [dguard, dopF]
theorem dg_ff : dguard (.v (.bool false)) false (dopF P f S ty op K) n = dop P f S ty op K := by simp [dguard, dopF]
theorem dg_tf : dguard (.v (.bool true)) false y (dskip P ops R r f dst S) = dops P ops R r (put f dst undefD) S := by simp [dguard, dskip]
theorem dg_ft : dguard (.v (.bool false)) true y (dskip P ops R r f dst S) = dops P ops R r (put f dst undefD) S := by simp [dguard, dskip]
theorem dg_no (want : Bool) : dguard undefD want y (dskip P ops R r f dst S) = dops P ops R r (put f dst undefD) S := Eq.trans (Eq.refl _) (Eq.refl _)
theorem dg_mk {b want : Bool} (h1 : b = want → dop P f S ty op K) (h2 : b = !want → dops P ops R r (put f dst undefD) S) : dguard (.v (.bool b)) want (dopF P f S ty op K) (dskip P ops R r f dst S) := ⟨h1, h2⟩
end
theorem dIf_t (x : Code) (Y : Prop) : dIf (.v (.bool true)) (dwpF P x Q f S) Y = dwp P x Q f S := by simp [dIf, dwpF]
theorem dIf_f (y : Code) (X : Prop) : dIf (.v (.bool false)) X (dwpF P y Q f S) = dwp P y Q f S := by simp [dIf, dwpF]
theorem dops_nil (ops : Array Oper) (R : Fm → St → Prop) : dops P ops R [] f S = R f S := Eq.trans (Eq.refl _) (Eq.refl _)
theorem dops_plain (ops : Array Oper) (R : Fm → St → Prop) (r : List Oper) (dst : Option Tmp) (op : Op) (ty : TypeId) (pos : String) (after : Array Edge) : dops P ops R (⟨dst, op, ty, pos, after, none⟩ :: r) f S = dop P f S ty op (dnext P ops R r f dst) := Eq.trans (Eq.refl _) (Eq.refl _)
theorem dops_guard (l : List Oper) (R : Fm → St → Prop) (r : List Oper) (dst : Option Tmp) (op : Op) (ty : TypeId) (pos : String) (after : Array Edge) (j : Nat) (want : Bool) :
    dops P (List.toArray l) R (⟨dst, op, ty, pos, after, some (j, want)⟩ :: r) f S = dguardT (gtmp l j) f want (dopF P f S ty op (dnext P (List.toArray l) R r f dst)) (dskip P (List.toArray l) R r f dst S) := by
  rw [← gtmp_eq]; rfl
def onValS (o : Option (Prop × D)) (K : D → St → Prop) (S : St) : Prop := match o with
  | some (c, d) => c ∧ K d S
  | none => False
theorem onValS_some (c : Prop) (d : D) (K : D → St → Prop) : onValS (some (c, d)) K S = (c ∧ K d S) := Eq.trans (Eq.refl _) (Eq.refl _)
theorem onVal_some (c : Prop) (d : D) (K : D → Prop) : onVal (some (c, d)) K = (c ∧ K d) := Eq.trans (Eq.refl _) (Eq.refl _)
theorem dop_move {ty : TypeId} {K : D → St → Prop} (x : Operand) : dop P f S ty (.move x) K = onValS (dval P f S ty (.move x)) K S := by
  unfold dop; exact Eq.trans (Eq.refl _) (Eq.refl _)
theorem dop_assign {ty : TypeId} {K : D → St → Prop} (x : Operand) : dop P f S ty (.assign x) K = onValS (dval P f S ty (.assign x)) K S := by
  unfold dop; exact Eq.trans (Eq.refl _) (Eq.refl _)
theorem dop_pick {ty : TypeId} {K : D → St → Prop} (c x y : Operand) : dop P f S ty (.pick c x y) K = onValS (dval P f S ty (.pick c x y)) K S := by
  unfold dop; exact Eq.trans (Eq.refl _) (Eq.refl _)
theorem dop_load {ty : TypeId} {K : D → St → Prop} (t : TypeId) (x : Operand) : dop P f S ty (.load t x) K = onValS (dval P f S ty (.load t x)) K S := by
  unfold dop; exact Eq.trans (Eq.refl _) (Eq.refl _)
theorem dop_fieldAddr {ty : TypeId} {K : D → St → Prop} (t : TypeId) (x : Operand) (i : Nat) : dop P f S ty (.fieldAddr t x i) K = onValS (dval P f S ty (.fieldAddr t x i)) K S := by
  unfold dop; exact Eq.trans (Eq.refl _) (Eq.refl _)
theorem dop_field {ty : TypeId} {K : D → St → Prop} (t : TypeId) (x : Operand) (i : Nat) : dop P f S ty (.field t x i) K = onValS (dval P f S ty (.field t x i)) K S := by
  unfold dop; exact Eq.trans (Eq.refl _) (Eq.refl _)
theorem dop_indexAddr {ty : TypeId} {K : D → St → Prop} (t : TypeId) (x i : Operand) : dop P f S ty (.indexAddr t x i) K = onValS (dval P f S ty (.indexAddr t x i)) K S := by
  unfold dop; exact Eq.trans (Eq.refl _) (Eq.refl _)
theorem dop_index {ty : TypeId} {K : D → St → Prop} (t : TypeId) (x i : Operand) : dop P f S ty (.index t x i) K = onValS (dval P f S ty (.index t x i)) K S := by
  unfold dop; exact Eq.trans (Eq.refl _) (Eq.refl _)
theorem dop_extract {ty : TypeId} {K : D → St → Prop} (x : Operand) (i : Nat) : dop P f S ty (.extract x i) K = onValS (dval P f S ty (.extract x i)) K S := by
  unfold dop; exact Eq.trans (Eq.refl _) (Eq.refl _)
theorem dop_makeFunc {ty : TypeId} {K : D → St → Prop} (fn : Fn) (fs cs : Array Operand) : dop P f S ty (.makeFunc fn fs cs) K = onValS (dval P f S ty (.makeFunc fn fs cs)) K S := by
  unfold dop; exact Eq.trans (Eq.refl _) (Eq.refl _)
theorem dop_makeInterface {ty : TypeId} {K : D → St → Prop} (t : TypeId) (x : Operand) : dop P f S ty (.makeInterface t x) K = onValS (dval P f S ty (.makeInterface t x)) K S := by
  unfold dop; exact Eq.trans (Eq.refl _) (Eq.refl _)
theorem dop_nilCheck {ty : TypeId} {K : D → St → Prop} (x : Operand) : dop P f S ty (.nilCheck x) K = onValS (dval P f S ty (.nilCheck x)) K S := by
  unfold dop; exact Eq.trans (Eq.refl _) (Eq.refl _)
theorem dop_slice {ty : TypeId} {K : D → St → Prop} (t : TypeId) (x : Operand) (lo hi mx : Option Operand) : dop P f S ty (.slice t x lo hi mx) K = onValS (dval P f S ty (.slice t x lo hi mx)) K S := by
  unfold dop; exact Eq.trans (Eq.refl _) (Eq.refl _)
theorem dop_binOp {ty : TypeId} {K : D → St → Prop} (op : BinOp) (t : TypeId) (x y : Operand) (u : TypeId) : dop P f S ty (.binOp op t x y u) K = onValS (dval P f S ty (.binOp op t x y u)) K S := by
  unfold dop; exact Eq.trans (Eq.refl _) (Eq.refl _)
theorem dop_unOp {ty : TypeId} {K : D → St → Prop} (op : UnOp) (t : TypeId) (x : Operand) : dop P f S ty (.unOp op t x) K = onValS (dval P f S ty (.unOp op t x)) K S := by
  unfold dop; exact Eq.trans (Eq.refl _) (Eq.refl _)
theorem dop_convert {ty : TypeId} {K : D → St → Prop} (s t : TypeId) (x : Operand) : dop P f S ty (.convert s t x) K = onValS (orD (dnew P f S (.convert s t x)) (dval P f S ty (.convert s t x))) K S := by
  unfold dop; exact Eq.trans (Eq.refl _) (Eq.refl _)
theorem dop_b_len {ty : TypeId} {K : D → St → Prop} (args : Array Operand) (ts : Array TypeId) : dop P f S ty (.call ⟨.builtin .len, args, ts⟩) K = onValS (dval P f S ty (.call ⟨.builtin .len, args, ts⟩)) K S := by
  unfold dop; exact Eq.trans (Eq.refl _) (Eq.refl _)
theorem dop_b_cap {ty : TypeId} {K : D → St → Prop} (args : Array Operand) (ts : Array TypeId) : dop P f S ty (.call ⟨.builtin .cap, args, ts⟩) K = onValS (dval P f S ty (.call ⟨.builtin .cap, args, ts⟩)) K S := by
  unfold dop; exact Eq.trans (Eq.refl _) (Eq.refl _)
theorem dop_b_min {ty : TypeId} {K : D → St → Prop} (args : Array Operand) (ts : Array TypeId) : dop P f S ty (.call ⟨.builtin .min, args, ts⟩) K = onValS (dval P f S ty (.call ⟨.builtin .min, args, ts⟩)) K S := by
  unfold dop; exact Eq.trans (Eq.refl _) (Eq.refl _)
theorem dop_b_max {ty : TypeId} {K : D → St → Prop} (args : Array Operand) (ts : Array TypeId) : dop P f S ty (.call ⟨.builtin .max, args, ts⟩) K = onValS (dval P f S ty (.call ⟨.builtin .max, args, ts⟩)) K S := by
  unfold dop; exact Eq.trans (Eq.refl _) (Eq.refl _)
theorem dop_buildSlice {ty : TypeId} {K : D → St → Prop} (t : TypeId) (n : Nat) (ps : Array (Nat × Operand)) : dop P f S ty (.buildSlice t n ps) K = onValS (dnew P f S (.buildSlice t n ps)) K S := by
  unfold dop; exact Eq.trans (Eq.refl _) (Eq.refl _)
theorem dop_build {ty : TypeId} {K : D → St → Prop} (t : TypeId) (ps : Array (Nat × Operand)) : dop P f S ty (.build t ps) K = onValS (dnew P f S (.build t ps)) K S := by
  unfold dop; exact Eq.trans (Eq.refl _) (Eq.refl _)
theorem dop_alloc {ty : TypeId} {K : D → St → Prop} (t : TypeId) : dop P f S ty (.alloc t) K = (zeroOk P t = true ∧ K (.loc S.next 0) (S.add (.box t (zeroD P t)))) := Eq.trans (Eq.refl _) (Eq.refl _)
theorem dop_box {ty : TypeId} {K : D → St → Prop} (t : TypeId) (x : Operand) : dop P f S ty (.box t x) K = ((ev f x).okCell = true ∧ K (.loc S.next 0) (S.add (.box t (ev f x).cells))) := Eq.trans (Eq.refl _) (Eq.refl _)
def dstore (P : Program) (S : St) (t : TypeId) (x y : D) (K : D → St → Prop) : Prop := match x with
  | .loc k off => match S.ob k with
    | some (.box t' cs) => y.okCell = true ∧ (P.info? t).isSome = true ∧ y.width = szOf P t ∧ off + szOf P t ≤ cs.length ∧ K undefD (S.set k (.box t' (splice cs off y.cells)))
    | _ => False
  | _ => False
theorem dop_store {ty : TypeId} {K : D → St → Prop} (t : TypeId) (x y : Operand) : dop P f S ty (.store t x y) K = dstore P S t (ev f x) (ev f y) K := Eq.trans (Eq.refl _) (Eq.refl _)
def dcall (P : Program) (S : St) (x : D) (args : List D) (K : D → St → Prop) : Prop := match x with
  | .fn (.func g) fs cs => DCalls P g (fs ++ args ++ cs) S K
  | _ => False
theorem dcall_fn (g : FuncId) (fs args cs : List D) (K : D → St → Prop) : dcall P S (.fn (.func g) fs cs) args K = DCalls P g (fs ++ args ++ cs) S K := Eq.trans (Eq.refl _) (Eq.refl _)
theorem dop_call {ty : TypeId} {K : D → St → Prop} (x : Operand) (args : List Operand) (ts : Array TypeId) : dop P f S ty (.call ⟨.value x, List.toArray args, ts⟩) K = dcall P S (ev f x) (args.map (ev f)) K := Eq.trans (Eq.refl _) (Eq.refl _)
def dappend (P : Program) (S : St) (t tx : TypeId) (x y : D) (K : D → St → Prop) : Prop := match x, y with
  | .sl own es, .sl _ es2 => match elT P t with
    | some e => (elT P tx).isSome = true ∧ zeroT P e = true ∧ (∀ d ∈ es, d.width = szOf P e) ∧ (∀ d ∈ es2, d.width = szOf P e) ∧ (match own with | .full => True | .row g => S.ob g = some (.row e es.length) | .no => False) ∧ es.length + es2.length ≤ 140737488355328 ∧ (es.length + es2.length) * bytesOf P e ≤ 140737488355328 ∧ K (.sl (.row S.next) (es ++ es2)) (S.grow own e (es.length + es2.length))
    | none => False
  | _, _ => False
def dapp (P : Program) (S : St) (t tx : TypeId) (ty : TypeId) (x y : D) (K : D → St → Prop) : Prop := match x with
  | .win k off n c => DRun P (fun vs => Builtin.append_ #[t, tx] ty vs.toArray) [.win k off n c, y] S K
  | x => dappend P S t tx x y K ∨ match x, y with
    | .sl own es, .sl o2 es2 => match elT P t with
      | some e => appWin P S e tx own es es2 K ∨ DRun P (fun vs => Builtin.append_ #[t, tx] ty vs.toArray) [.sl own es, .sl o2 es2] S K
      | none => False
    | _, _ => False
theorem dapp_row {t tx ty : TypeId} {own : Own} {es : List D} {y : D} {K : D → St → Prop} (h : dappend P S t tx (.sl own es) y K) : dapp P S t tx ty (.sl own es) y K := .inl h
theorem dapp_step {t tx ty : TypeId} {own o2 : Own} {es es2 : List D} {e : TypeId} {K : D → St → Prop} (he : elT P t = some e) (h : DRun P (fun vs => Builtin.append_ #[t, tx] ty vs.toArray) [.sl own es, .sl o2 es2] S K) : dapp P S t tx ty (.sl own es) (.sl o2 es2) K := .inr (by simp only [he]; exact .inr h)
theorem dop_append {ty : TypeId} {K : D → St → Prop} (x y : Operand) (t tx : TypeId) : dop P f S ty (.call ⟨.builtin .append, #[x, y], #[t, tx]⟩) K = dapp P S t tx ty (ev f x) (ev f y) K := by
  simp only [dop, List.map_cons, List.map_nil]
  generalize ev f x = a
  generalize ev f y = b
  cases a <;> first | rfl | (simp only [dapp, dappend]; cases he : elT P t <;> cases b <;> (try simp only [he, or_false, false_or, or_self]) <;> rfl)
def dcopy (P : Program) (ts : Array TypeId) (ty : TypeId) (x y : D) (S : St) (K : D → St → Prop) : Prop := DRun P (fun vs => Builtin.copy_ ts ty vs.toArray) [x, y] S K
theorem dop_copy {ty : TypeId} {K : D → St → Prop} (x y : Operand) (ts : Array TypeId) : dop P f S ty (.call ⟨.builtin .copy, #[x, y], ts⟩) K = dcopy P ts ty (ev f x) (ev f y) S K := Eq.trans (Eq.refl _) (Eq.refl _)
def dinvoke (P : Program) (x : D) (m : String) (args : List D) (S : St) (K : D → St → Prop) : Prop := match x with
  | .ifc t d => ∃ g d', DMeth P t d m g d' ∧ DCalls P g (d' :: args) S K
  | _ => False
theorem dop_invoke {ty : TypeId} {K : D → St → Prop} (r : Operand) (m : String) (args : List Operand) (ts : Array TypeId) : dop P f S ty (.call ⟨.invoke r m, List.toArray args, ts⟩) K = dinvoke P (ev f r) m (args.map (ev f)) S K := Eq.trans (Eq.refl _) (Eq.refl _)
theorem dinvoke_mk {t : TypeId} {d d' : D} {m : String} {g : FuncId} {args : List D} {K : D → St → Prop} (h1 : DMeth P t d m g d') (h2 : DCalls P g (d' :: args) S K) : dinvoke P (.ifc t d) m args S K := ⟨g, d', h1, h2⟩
theorem list_of_array {α : Type} (l : List α) : (List.toArray l).toList = l := Eq.trans (Eq.refl _) (Eq.refl _)
theorem add_next (S : St) (o : Ob) : (S.add o).next = S.next + 1 := Eq.trans (Eq.refl _) (Eq.refl _)
theorem add_ob (S : St) (o : Ob) (k : Nat) : (S.add o).ob k = if k = S.next then some o else S.ob k := Eq.trans (Eq.refl _) (Eq.refl _)
theorem set_next (S : St) (k : Nat) (o : Ob) : (S.set k o).next = S.next := Eq.trans (Eq.refl _) (Eq.refl _)
theorem set_ob (S : St) (k j : Nat) (o : Ob) : (S.set k o).ob j = if j = k then some o else S.ob j := Eq.trans (Eq.refl _) (Eq.refl _)
theorem grow_next (S : St) (own : Own) (e : TypeId) (n : Nat) : (S.grow own e n).next = S.next + 1 := by cases own <;> rfl
theorem grow_full_ob (S : St) (e : TypeId) (n k : Nat) : (S.grow .full e n).ob k = if k = S.next then some (.row e n) else S.ob k := Eq.trans (Eq.refl _) (Eq.refl _)
theorem grow_row_ob (S : St) (g : Nat) (e : TypeId) (n k : Nat) : (S.grow (.row g) e n).ob k = if k = S.next then some (.row e n) else if k = g then none else S.ob k := Eq.trans (Eq.refl _) (Eq.refl _)
def dround (I : Fm → St → Prop) (μ : Fm → St → Nat) (n : Nat) (f' : Fm) (S' : St) : Prop := ∃ S'' : St, (S''.next = S'.next ∧ ∀ k o, S''.ob k = some o → S'.ob k = some o) ∧ I f' S'' ∧ μ f' S'' < n
theorem dloop_mk {body : DQ → Fm → St → Prop} (I : Fm → St → Prop) (μ : Fm → St → Nat) (h0 : I f S)
    (hr : ∀ g T, I g T → body (DQ.then (dround I μ (μ g T)) Q) g T) : DLoop body Q f S := ⟨I, μ, h0, hr⟩
theorem round_end {I : Fm → St → Prop} {μ : Fm → St → Nat} {n : Nat} {f' : Fm} {S' : St} (h : I f' S') (hm : μ f' S' < n) : dround I μ n f' S' := ⟨S', ⟨rfl, fun _ _ h => h⟩, h, hm⟩
theorem round_back {I : Fm → St → Prop} {μ : Fm → St → Nat} {n : Nat} {f' : Fm} {S' : St} (ob : Nat → Option Ob) (hs : ∀ k o, ob k = some o → S'.ob k = some o) (h : I f' ⟨S'.next, ob⟩) (hm : μ f' ⟨S'.next, ob⟩ < n) : dround I μ n f' S' := ⟨⟨S'.next, ob⟩, ⟨rfl, hs⟩, h, hm⟩
theorem loop_cut {c : Code} {id : Nat} {k : Fm → St → Prop} (J : Fm → St → Prop) (h : DLoop (dwp P c) (DQ.block id (DQ.then J Q)) f S) (hk : ∀ f' S', J f' S' → k f' S') : DLoop (dwp P c) (DQ.block id (DQ.then k Q)) f S :=
  dwp_mono (.loop c) (fun e f' S' hq => by
    cases e with
    | normal => exact hk _ _ hq
    | ret => exact hq
    | exit i =>
      simp only [DQ.block] at *
      cases hb : Nat.beq i id with
      | true => rw [hb] at hq; exact hk _ _ hq
      | false => rw [hb] at hq; exact hq) h
def slotN (d : D) : Nat := match d with
  | .v (.int _ q) => q.toNat
  | _ => 0
theorem slotN_int (k : IntKind) (n : Nat) : slotN (.v (.int k n)) = n := by simp [slotN]
theorem slotN_succ (k : IntKind) (n : Nat) : slotN (.v (.int k ((n : Int) + 1))) = n + 1 := by simp [slotN]
theorem getD_map {α : Type} (g : α → D) (l : List α) (i : Nat) (h : i < l.length) : (l.map g).getD i undefD = g l[i] := by simp [List.getD, h]
/-! Ends. -/
theorem pfin_ret (t : Tmp) (S' : St) (d : D) : DQ.pfin P [.tmp t] S d .ret f S' = PFin S S' (f t) d := by
  simp [DQ.pfin, dresL, dres, onVal, one]
theorem pfin_normal (t : Tmp) (S' : St) (d : D) : DQ.pfin P [.tmp t] S d .normal f S' = PFin S S' (f t) d := by
  simp [DQ.pfin, dresL, dres, onVal, one]
theorem pfin_ret2 (t u : Tmp) (S' : St) (d : D) : DQ.pfin P [.tmp t, .tmp u] S d .ret f S' = PFin S S' (.tup [f t, f u]) d := by
  simp [DQ.pfin, dresL, dres, onVal, one]
theorem pfin_normal2 (t u : Tmp) (S' : St) (d : D) : DQ.pfin P [.tmp t, .tmp u] S d .normal f S' = PFin S S' (.tup [f t, f u]) d := by
  simp [DQ.pfin, dresL, dres, onVal, one]
end

/-! A region that draws its order. -/
section
variable {P : Program} {f : Fm} {S : St}
def hnext (P : Program) (ops : Array Oper) (S : St) (R : Fm → St → Prop) (r : List Oper) (f : Fm) (dst : Option Tmp) (u : Option Ob) (d : D) : Prop := dhead P ops S R r (put f dst d) u
theorem hnext_eq (ops : Array Oper) (R : Fm → St → Prop) (r : List Oper) (dst : Option Tmp) (u : Option Ob) (d : D) : hnext P ops S R r f dst u d = dhead P ops S R r (put f dst d) u := Eq.trans (Eq.refl _) (Eq.refl _)
def hnextN (P : Program) (ops : Array Oper) (S : St) (R : Fm → St → Prop) (r : List Oper) (f : Fm) (dst : Option Tmp) (d : D) (u : Option Ob) : Prop := dhead P ops S R r (put f dst d) u
theorem hnextN_eq (ops : Array Oper) (R : Fm → St → Prop) (r : List Oper) (dst : Option Tmp) (u : Option Ob) (d : D) : hnextN P ops S R r f dst d u = dhead P ops S R r (put f dst d) u := Eq.trans (Eq.refl _) (Eq.refl _)
def hAt (K : D → Option Ob → Prop) (u : Option Ob) (d : D) : Prop := K d u
theorem hAt_eq (K : D → Option Ob → Prop) (u : Option Ob) (d : D) : hAt K u d = K d u := Eq.trans (Eq.refl _) (Eq.refl _)
def hskip (P : Program) (ops : Array Oper) (S : St) (R : Fm → St → Prop) (r : List Oper) (f : Fm) (dst : Option Tmp) (u : Option Ob) : Prop := dhead P ops S R r (put f dst undefD) u
def dquietF (P : Program) (f : Fm) (S : St) (ty : TypeId) (op : Op) (K : D → Prop) : Prop := dquiet P f S ty op K
def dtail (P : Program) (l : List Oper) (R : Fm → St → Prop) (n : Nat) (f : Fm) (S : St) : Prop := dops P (List.toArray l) R (l.drop n) f S
theorem dtail_eq (l : List Oper) (R : Fm → St → Prop) (n : Nat) : dtail P l R n f S = dops P (List.toArray l) R (l.drop n) f S := Eq.trans (Eq.refl _) (Eq.refl _)
theorem ddraw_mk (n : Nat) {l : List Oper} {R : Fm → St → Prop} (h : drawOk l n = true) (k : dhead P (List.toArray (l.take n)) S (dtail P l R n) (l.take n) f none) : ddraw P l R f S := .inl ⟨n, h, k⟩
theorem ddraw_any (Zs : St → Prop) (n : Nat) {l : List Oper} {R : Fm → St → Prop} (hz : Zs S) (h : (n == l.length || heldTailB l n) = true) (k : sAny P .any (List.toArray (l.take n)) Zs (dtail P l R n) (List.toArray (l.take n)).size (Array.replicate (List.toArray (l.take n)).size false) f S) : ddraw P l R f S := .inr ⟨Zs, n, hz, h, k⟩
theorem after_none (S : St) : after S none = S := Eq.trans (Eq.refl _) (Eq.refl _)
theorem after_some (S : St) (b : Ob) : after S (some b) = S.add b := Eq.trans (Eq.refl _) (Eq.refl _)
theorem dhead_nil (ops : Array Oper) (R : Fm → St → Prop) (u : Option Ob) : dhead P ops S R [] f u = R f (after S u) := Eq.trans (Eq.refl _) (Eq.refl _)
theorem dhead_plain (ops : Array Oper) (R : Fm → St → Prop) (r : List Oper) (dst : Option Tmp) (op : Op) (ty : TypeId) (pos : String) (aft : Array Edge) (u : Option Ob) : dhead P ops S R (⟨dst, op, ty, pos, aft, none⟩ :: r) f u = hop P f S u ty op (hnextN P ops S R r f dst) := Eq.trans (Eq.refl _) (Eq.refl _)
theorem dhead_guard (l : List Oper) (R : Fm → St → Prop) (r : List Oper) (dst : Option Tmp) (op : Op) (ty : TypeId) (pos : String) (aft : Array Edge) (j : Nat) (want : Bool) (u : Option Ob) :
    dhead P (List.toArray l) S R (⟨dst, op, ty, pos, aft, some (j, want)⟩ :: r) f u = dguardT (gtmp l j) f want (dquietF P f S ty op (hnext P (List.toArray l) S R r f dst u)) (hskip P (List.toArray l) S R r f dst u) := by
  rw [← gtmp_eq]; rfl
theorem hop_alloc {ty : TypeId} {K : D → Option Ob → Prop} (t : TypeId) : hop P f S none ty (.alloc t) K = (zeroOk P t = true ∧ K (.loc S.next 0) (some (.box t (zeroD P t)))) := by simp [hop]
theorem hop_box {ty : TypeId} {K : D → Option Ob → Prop} (t : TypeId) (x : Operand) : hop P f S none ty (.box t x) K = ((ev f x).okCell = true ∧ K (.loc S.next 0) (some (.box t (ev f x).cells))) := by simp [hop]
theorem hop_call {ty : TypeId} {K : D → Option Ob → Prop} {uo : Option Ob} (x : Operand) (args : List Operand) (ts : Array TypeId) : hop P f S uo ty (.call ⟨.value x, List.toArray args, ts⟩) K = dquiet P f S ty (.call ⟨.value x, List.toArray args, ts⟩) (hAt K uo) := Eq.trans (Eq.refl _) (Eq.refl _)
theorem hop_append {ty : TypeId} {K : D → Option Ob → Prop} {uo : Option Ob} (args : Array Operand) (ts : Array TypeId) : hop P f S uo ty (.call ⟨.builtin .append, args, ts⟩) K = dquiet P f S ty (.call ⟨.builtin .append, args, ts⟩) (hAt K uo) := Eq.trans (Eq.refl _) (Eq.refl _)
theorem hop_buildSlice {ty : TypeId} {K : D → Option Ob → Prop} {uo : Option Ob} (t : TypeId) (n : Nat) (ps : Array (Nat × Operand)) : hop P f S uo ty (.buildSlice t n ps) K = dquiet P f S ty (.buildSlice t n ps) (hAt K uo) := Eq.trans (Eq.refl _) (Eq.refl _)
theorem hop_build {ty : TypeId} {K : D → Option Ob → Prop} {uo : Option Ob} (t : TypeId) (ps : Array (Nat × Operand)) : hop P f S uo ty (.build t ps) K = dquiet P f S ty (.build t ps) (hAt K uo) := Eq.trans (Eq.refl _) (Eq.refl _)
theorem hop_move {ty : TypeId} {K : D → Option Ob → Prop} {uo : Option Ob} (x : Operand) : hop P f S uo ty (.move x) K = dquiet P f S ty (.move x) (hAt K uo) := Eq.trans (Eq.refl _) (Eq.refl _)
theorem hop_assign {ty : TypeId} {K : D → Option Ob → Prop} {uo : Option Ob} (x : Operand) : hop P f S uo ty (.assign x) K = dquiet P f S ty (.assign x) (hAt K uo) := Eq.trans (Eq.refl _) (Eq.refl _)
theorem hop_pick {ty : TypeId} {K : D → Option Ob → Prop} {uo : Option Ob} (c x y : Operand) : hop P f S uo ty (.pick c x y) K = dquiet P f S ty (.pick c x y) (hAt K uo) := Eq.trans (Eq.refl _) (Eq.refl _)
theorem hop_load {ty : TypeId} {K : D → Option Ob → Prop} {uo : Option Ob} (t : TypeId) (x : Operand) : hop P f S uo ty (.load t x) K = dquiet P f S ty (.load t x) (hAt K uo) := Eq.trans (Eq.refl _) (Eq.refl _)
theorem hop_fieldAddr {ty : TypeId} {K : D → Option Ob → Prop} {uo : Option Ob} (t : TypeId) (x : Operand) (i : Nat) : hop P f S uo ty (.fieldAddr t x i) K = dquiet P f S ty (.fieldAddr t x i) (hAt K uo) := Eq.trans (Eq.refl _) (Eq.refl _)
theorem hop_field {ty : TypeId} {K : D → Option Ob → Prop} {uo : Option Ob} (t : TypeId) (x : Operand) (i : Nat) : hop P f S uo ty (.field t x i) K = dquiet P f S ty (.field t x i) (hAt K uo) := Eq.trans (Eq.refl _) (Eq.refl _)
theorem hop_indexAddr {ty : TypeId} {K : D → Option Ob → Prop} {uo : Option Ob} (t : TypeId) (x i : Operand) : hop P f S uo ty (.indexAddr t x i) K = dquiet P f S ty (.indexAddr t x i) (hAt K uo) := Eq.trans (Eq.refl _) (Eq.refl _)
theorem hop_index {ty : TypeId} {K : D → Option Ob → Prop} {uo : Option Ob} (t : TypeId) (x i : Operand) : hop P f S uo ty (.index t x i) K = dquiet P f S ty (.index t x i) (hAt K uo) := Eq.trans (Eq.refl _) (Eq.refl _)
theorem hop_extract {ty : TypeId} {K : D → Option Ob → Prop} {uo : Option Ob} (x : Operand) (i : Nat) : hop P f S uo ty (.extract x i) K = dquiet P f S ty (.extract x i) (hAt K uo) := Eq.trans (Eq.refl _) (Eq.refl _)
theorem hop_makeFunc {ty : TypeId} {K : D → Option Ob → Prop} {uo : Option Ob} (fn : Fn) (fs cs : Array Operand) : hop P f S uo ty (.makeFunc fn fs cs) K = dquiet P f S ty (.makeFunc fn fs cs) (hAt K uo) := Eq.trans (Eq.refl _) (Eq.refl _)
theorem hop_makeInterface {ty : TypeId} {K : D → Option Ob → Prop} {uo : Option Ob} (t : TypeId) (x : Operand) : hop P f S uo ty (.makeInterface t x) K = dquiet P f S ty (.makeInterface t x) (hAt K uo) := Eq.trans (Eq.refl _) (Eq.refl _)
theorem hop_nilCheck {ty : TypeId} {K : D → Option Ob → Prop} {uo : Option Ob} (x : Operand) : hop P f S uo ty (.nilCheck x) K = dquiet P f S ty (.nilCheck x) (hAt K uo) := Eq.trans (Eq.refl _) (Eq.refl _)
theorem hop_slice {ty : TypeId} {K : D → Option Ob → Prop} {uo : Option Ob} (t : TypeId) (x : Operand) (lo hi mx : Option Operand) : hop P f S uo ty (.slice t x lo hi mx) K = dquiet P f S ty (.slice t x lo hi mx) (hAt K uo) := Eq.trans (Eq.refl _) (Eq.refl _)
theorem hop_binOp {ty : TypeId} {K : D → Option Ob → Prop} {uo : Option Ob} (op : BinOp) (t : TypeId) (x y : Operand) (u : TypeId) : hop P f S uo ty (.binOp op t x y u) K = dquiet P f S ty (.binOp op t x y u) (hAt K uo) := Eq.trans (Eq.refl _) (Eq.refl _)
theorem hop_unOp {ty : TypeId} {K : D → Option Ob → Prop} {uo : Option Ob} (op : UnOp) (t : TypeId) (x : Operand) : hop P f S uo ty (.unOp op t x) K = dquiet P f S ty (.unOp op t x) (hAt K uo) := Eq.trans (Eq.refl _) (Eq.refl _)
theorem hop_convert {ty : TypeId} {K : D → Option Ob → Prop} {uo : Option Ob} (s t : TypeId) (x : Operand) : hop P f S uo ty (.convert s t x) K = dquiet P f S ty (.convert s t x) (hAt K uo) := Eq.trans (Eq.refl _) (Eq.refl _)
theorem hop_b_len {ty : TypeId} {K : D → Option Ob → Prop} {uo : Option Ob} (args : Array Operand) (ts : Array TypeId) : hop P f S uo ty (.call ⟨.builtin .len, args, ts⟩) K = dquiet P f S ty (.call ⟨.builtin .len, args, ts⟩) (hAt K uo) := Eq.trans (Eq.refl _) (Eq.refl _)
theorem hop_b_cap {ty : TypeId} {K : D → Option Ob → Prop} {uo : Option Ob} (args : Array Operand) (ts : Array TypeId) : hop P f S uo ty (.call ⟨.builtin .cap, args, ts⟩) K = dquiet P f S ty (.call ⟨.builtin .cap, args, ts⟩) (hAt K uo) := Eq.trans (Eq.refl _) (Eq.refl _)
theorem hop_b_min {ty : TypeId} {K : D → Option Ob → Prop} {uo : Option Ob} (args : Array Operand) (ts : Array TypeId) : hop P f S uo ty (.call ⟨.builtin .min, args, ts⟩) K = dquiet P f S ty (.call ⟨.builtin .min, args, ts⟩) (hAt K uo) := Eq.trans (Eq.refl _) (Eq.refl _)
theorem hop_b_max {ty : TypeId} {K : D → Option Ob → Prop} {uo : Option Ob} (args : Array Operand) (ts : Array TypeId) : hop P f S uo ty (.call ⟨.builtin .max, args, ts⟩) K = dquiet P f S ty (.call ⟨.builtin .max, args, ts⟩) (hAt K uo) := Eq.trans (Eq.refl _) (Eq.refl _)
section
variable {y n : Prop} {ty : TypeId} {op : Op} {K : D → Prop} {ops : Array Oper} {R : Fm → St → Prop} {r : List Oper} {dst : Option Tmp} {u : Option Ob}
theorem hg_tt : dguard (.v (.bool true)) true (dquietF P f S ty op K) n = dquiet P f S ty op K := by simp [dguard, dquietF]
theorem hg_ff : dguard (.v (.bool false)) false (dquietF P f S ty op K) n = dquiet P f S ty op K := by simp [dguard, dquietF]
theorem hg_tf : dguard (.v (.bool true)) false y (hskip P ops S R r f dst u) = dhead P ops S R r (put f dst undefD) u := by simp [dguard, hskip]
theorem hg_ft : dguard (.v (.bool false)) true y (hskip P ops S R r f dst u) = dhead P ops S R r (put f dst undefD) u := by simp [dguard, hskip]
theorem hg_no (want : Bool) : dguard undefD want y (hskip P ops S R r f dst u) = dhead P ops S R r (put f dst undefD) u := Eq.trans (Eq.refl _) (Eq.refl _)
end
def dqcall (P : Program) (S : St) (x : D) (args : List D) (K : D → Prop) : Prop := match x with
  | .fn (.func g) fs cs => ∃ d, DSt P g (fs ++ args ++ cs) S d ∧ K d
  | _ => False
def dqgo (P : Program) (S : St) (g : FuncId) (args : List D) (K : D → Prop) : Prop := ∃ d, DSt P g args S d ∧ K d
theorem dqcall_fn (g : FuncId) (fs args cs : List D) (K : D → Prop) : dqcall P S (.fn (.func g) fs cs) args K = dqgo P S g (fs ++ args ++ cs) K := Eq.trans (Eq.refl _) (Eq.refl _)
theorem dqgo_mk {g : FuncId} {args : List D} {K : D → Prop} {d : D} (h : DPure P g args d) (k : K d) : dqgo P S g args K := ⟨d, h.st, k⟩
theorem dq_call {ty : TypeId} {K : D → Prop} (x : Operand) (args : List Operand) (ts : Array TypeId) : dquiet P f S ty (.call ⟨.value x, List.toArray args, ts⟩) K = dqcall P S (ev f x) (args.map (ev f)) K := Eq.trans (Eq.refl _) (Eq.refl _)
theorem dq_append {ty : TypeId} {K : D → Prop} (args : Array Operand) (ts : Array TypeId) : dquiet P f S ty (.call ⟨.builtin .append, args, ts⟩) K = onVal2 (dnew P f S (.call ⟨.builtin .append, args, ts⟩)) (dval P f S ty (.call ⟨.builtin .append, args, ts⟩)) K := Eq.trans (Eq.refl _) (Eq.refl _)
theorem onVal2_some (c : Prop) (d : D) (o : Option (Prop × D)) (K : D → Prop) : onVal2 (some (c, d)) o K = (c ∧ K d) := Eq.trans (Eq.refl _) (Eq.refl _)
theorem dq_buildSlice {ty : TypeId} {K : D → Prop} (t : TypeId) (n : Nat) (ps : Array (Nat × Operand)) : dquiet P f S ty (.buildSlice t n ps) K = onVal2 (dnew P f S (.buildSlice t n ps)) (dval P f S ty (.buildSlice t n ps)) K := Eq.trans (Eq.refl _) (Eq.refl _)
theorem dq_build {ty : TypeId} {K : D → Prop} (t : TypeId) (ps : Array (Nat × Operand)) : dquiet P f S ty (.build t ps) K = onVal2 (dnew P f S (.build t ps)) (dval P f S ty (.build t ps)) K := Eq.trans (Eq.refl _) (Eq.refl _)
theorem dq_move {ty : TypeId} {K : D → Prop} (x : Operand) : dquiet P f S ty (.move x) K = onVal (dval P f S ty (.move x)) K := Eq.trans (Eq.refl _) (Eq.refl _)
theorem dq_assign {ty : TypeId} {K : D → Prop} (x : Operand) : dquiet P f S ty (.assign x) K = onVal (dval P f S ty (.assign x)) K := Eq.trans (Eq.refl _) (Eq.refl _)
theorem dq_pick {ty : TypeId} {K : D → Prop} (c x y : Operand) : dquiet P f S ty (.pick c x y) K = onVal (dval P f S ty (.pick c x y)) K := Eq.trans (Eq.refl _) (Eq.refl _)
theorem dq_load {ty : TypeId} {K : D → Prop} (t : TypeId) (x : Operand) : dquiet P f S ty (.load t x) K = onVal (dval P f S ty (.load t x)) K := Eq.trans (Eq.refl _) (Eq.refl _)
theorem dq_fieldAddr {ty : TypeId} {K : D → Prop} (t : TypeId) (x : Operand) (i : Nat) : dquiet P f S ty (.fieldAddr t x i) K = onVal (dval P f S ty (.fieldAddr t x i)) K := Eq.trans (Eq.refl _) (Eq.refl _)
theorem dq_field {ty : TypeId} {K : D → Prop} (t : TypeId) (x : Operand) (i : Nat) : dquiet P f S ty (.field t x i) K = onVal (dval P f S ty (.field t x i)) K := Eq.trans (Eq.refl _) (Eq.refl _)
theorem dq_indexAddr {ty : TypeId} {K : D → Prop} (t : TypeId) (x i : Operand) : dquiet P f S ty (.indexAddr t x i) K = onVal (dval P f S ty (.indexAddr t x i)) K := Eq.trans (Eq.refl _) (Eq.refl _)
theorem dq_index {ty : TypeId} {K : D → Prop} (t : TypeId) (x i : Operand) : dquiet P f S ty (.index t x i) K = onVal (dval P f S ty (.index t x i)) K := Eq.trans (Eq.refl _) (Eq.refl _)
theorem dq_extract {ty : TypeId} {K : D → Prop} (x : Operand) (i : Nat) : dquiet P f S ty (.extract x i) K = onVal (dval P f S ty (.extract x i)) K := Eq.trans (Eq.refl _) (Eq.refl _)
theorem dq_makeFunc {ty : TypeId} {K : D → Prop} (fn : Fn) (fs cs : Array Operand) : dquiet P f S ty (.makeFunc fn fs cs) K = onVal (dval P f S ty (.makeFunc fn fs cs)) K := Eq.trans (Eq.refl _) (Eq.refl _)
theorem dq_makeInterface {ty : TypeId} {K : D → Prop} (t : TypeId) (x : Operand) : dquiet P f S ty (.makeInterface t x) K = onVal (dval P f S ty (.makeInterface t x)) K := Eq.trans (Eq.refl _) (Eq.refl _)
theorem dq_nilCheck {ty : TypeId} {K : D → Prop} (x : Operand) : dquiet P f S ty (.nilCheck x) K = onVal (dval P f S ty (.nilCheck x)) K := Eq.trans (Eq.refl _) (Eq.refl _)
theorem dq_slice {ty : TypeId} {K : D → Prop} (t : TypeId) (x : Operand) (lo hi mx : Option Operand) : dquiet P f S ty (.slice t x lo hi mx) K = onVal (dval P f S ty (.slice t x lo hi mx)) K := Eq.trans (Eq.refl _) (Eq.refl _)
theorem dq_binOp {ty : TypeId} {K : D → Prop} (op : BinOp) (t : TypeId) (x y : Operand) (u : TypeId) : dquiet P f S ty (.binOp op t x y u) K = onVal (dval P f S ty (.binOp op t x y u)) K := Eq.trans (Eq.refl _) (Eq.refl _)
theorem dq_unOp {ty : TypeId} {K : D → Prop} (op : UnOp) (t : TypeId) (x : Operand) : dquiet P f S ty (.unOp op t x) K = onVal (dval P f S ty (.unOp op t x)) K := Eq.trans (Eq.refl _) (Eq.refl _)
theorem onVal_orD {a b : Option (Prop × D)} {K : D → Prop} : onVal2 a b K = onVal (orD a b) K := by cases a <;> rfl
theorem dq_convert {ty : TypeId} {K : D → Prop} (s t : TypeId) (x : Operand) : dquiet P f S ty (.convert s t x) K = onVal (orD (dnew P f S (.convert s t x)) (dval P f S ty (.convert s t x))) K := Eq.trans (Eq.trans (Eq.refl _) onVal_orD) (Eq.refl _)
theorem dq_b_len {ty : TypeId} {K : D → Prop} (args : Array Operand) (ts : Array TypeId) : dquiet P f S ty (.call ⟨.builtin .len, args, ts⟩) K = onVal (dval P f S ty (.call ⟨.builtin .len, args, ts⟩)) K := Eq.trans (Eq.refl _) (Eq.refl _)
theorem dq_b_cap {ty : TypeId} {K : D → Prop} (args : Array Operand) (ts : Array TypeId) : dquiet P f S ty (.call ⟨.builtin .cap, args, ts⟩) K = onVal (dval P f S ty (.call ⟨.builtin .cap, args, ts⟩)) K := Eq.trans (Eq.refl _) (Eq.refl _)
theorem dq_b_min {ty : TypeId} {K : D → Prop} (args : Array Operand) (ts : Array TypeId) : dquiet P f S ty (.call ⟨.builtin .min, args, ts⟩) K = onVal (dval P f S ty (.call ⟨.builtin .min, args, ts⟩)) K := Eq.trans (Eq.refl _) (Eq.refl _)
theorem dq_b_max {ty : TypeId} {K : D → Prop} (args : Array Operand) (ts : Array TypeId) : dquiet P f S ty (.call ⟨.builtin .max, args, ts⟩) K = onVal (dval P f S ty (.call ⟨.builtin .max, args, ts⟩)) K := Eq.trans (Eq.refl _) (Eq.refl _)
end
theorem width_len (d : D) : d.width = d.cells.length := Eq.trans (Eq.refl _) (Eq.refl _)
theorem cells_agg_ (cs : List D) : (D.agg cs).cells = cs := Eq.trans (Eq.refl _) (Eq.refl _)
theorem cells_v_ (x : Value) : (D.v x).cells = [D.v x] := Eq.trans (Eq.refl _) (Eq.refl _)
theorem cells_tup_ (cs : List D) : (D.tup cs).cells = [D.tup cs] := Eq.trans (Eq.refl _) (Eq.refl _)
theorem cells_fn_ (g : Fn) (fs cs : List D) : (D.fn g fs cs).cells = [D.fn g fs cs] := Eq.trans (Eq.refl _) (Eq.refl _)
theorem okCell_fn_ (g : Fn) (fs cs : List D) : (D.fn g fs cs).okCell = true := Eq.trans (Eq.refl _) (Eq.refl _)
theorem cells_ifc_ (t : TypeId) (d : D) : (D.ifc t d).cells = [D.ifc t d] := Eq.trans (Eq.refl _) (Eq.refl _)
theorem okCell_ifc_ (t : TypeId) (d : D) : (D.ifc t d).okCell = true := Eq.trans (Eq.refl _) (Eq.refl _)
theorem cells_loc_ (k o : Nat) : (D.loc k o).cells = [D.loc k o] := Eq.trans (Eq.refl _) (Eq.refl _)
theorem okCell_loc_ (k o : Nat) : (D.loc k o).okCell = true := Eq.trans (Eq.refl _) (Eq.refl _)
theorem cells_rd_ (cs : List D) (o : Nat) : (D.rd cs o).cells = [D.rd cs o] := Eq.trans (Eq.refl _) (Eq.refl _)
theorem okCell_rd_ (cs : List D) (o : Nat) : (D.rd cs o).okCell = true := Eq.trans (Eq.refl _) (Eq.refl _)
theorem cells_sl_ (o : Own) (es : List D) : (D.sl o es).cells = [D.sl o es] := Eq.trans (Eq.refl _) (Eq.refl _)
theorem okCell_sl_ (o : Own) (es : List D) : (D.sl o es).okCell = true := Eq.trans (Eq.refl _) (Eq.refl _)
theorem okCell_agg_ (cs : List D) : (D.agg cs).okCell = true := Eq.trans (Eq.refl _) (Eq.refl _)
theorem okCell_bool_ (b : Bool) : (D.v (.bool b)).okCell = true := Eq.trans (Eq.refl _) (Eq.refl _)
theorem okCell_int_ (k : IntKind) (n : Int) : (D.v (.int k n)).okCell = true := Eq.trans (Eq.refl _) (Eq.refl _)
theorem okCell_string_ (s : ByteArray) : (D.v (.string s)).okCell = true := Eq.trans (Eq.refl _) (Eq.refl _)
theorem okCell_pointer_ (x : Option Addr) : (D.v (.pointer x)).okCell = true := Eq.trans (Eq.refl _) (Eq.refl _)
theorem okCell_slice_ (x : Option Addr) (n m : Nat) : (D.v (.slice x n m)).okCell = true := Eq.trans (Eq.refl _) (Eq.refl _)
theorem okCell_nilFunc_  : (D.v (.nilFunc)).okCell = true := Eq.trans (Eq.refl _) (Eq.refl _)
theorem okCell_nilIface_  : (D.v (.nilIface)).okCell = true := Eq.trans (Eq.refl _) (Eq.refl _)
theorem okCell_float_ (k : FloatKind) (n : Nat) : (D.v (.float k n)).okCell = true := Eq.trans (Eq.refl _) (Eq.refl _)
theorem okCell_map_ (r : Option Nat) : (D.v (.map r)).okCell = true := Eq.trans (Eq.refl _) (Eq.refl _)
theorem okCell_func_ (g : Fn) (x y : Array Value) : (D.v (.func g x y)).okCell = true := Eq.trans (Eq.refl _) (Eq.refl _)
theorem okCell_iface_ (t : TypeId) (x : Value) : (D.v (.iface t x)).okCell = true := Eq.trans (Eq.refl _) (Eq.refl _)
attribute [go_sem_proc] Nat.reduceMul Nat.reduceBEq Nat.reduceAdd Nat.reduceLeDiff Nat.reduceEqDiff Nat.reduceLT
attribute [go_sem_proc ↓] reduceIte
attribute [go_sem] width_len cells_agg_ cells_v_ cells_tup_ cells_fn_ okCell_fn_ cells_ifc_ okCell_ifc_ cells_loc_ okCell_loc_ cells_rd_ okCell_rd_ cells_sl_ okCell_sl_ okCell_agg_ okCell_bool_ okCell_int_ okCell_string_ okCell_pointer_ okCell_slice_ okCell_nilFunc_ okCell_nilIface_ okCell_float_ okCell_map_ okCell_func_ okCell_iface_
attribute [go_sem] hnext_eq hnextN_eq hAt_eq after_none after_some hop_alloc hop_box hop_call hop_append hop_buildSlice hop_build hop_move hop_assign hop_pick hop_load hop_fieldAddr hop_field hop_indexAddr hop_index hop_extract hop_makeFunc hop_makeInterface hop_nilCheck hop_slice hop_binOp hop_unOp hop_convert hop_b_len hop_b_cap hop_b_min hop_b_max dtail_eq dhead_nil dhead_plain dhead_guard hg_tt hg_ff hg_tf hg_ft hg_no dqcall_fn dq_call dq_append onVal2_some onVal_some dq_buildSlice dq_build dq_move dq_assign dq_pick dq_load dq_fieldAddr dq_field dq_indexAddr dq_index dq_extract dq_makeFunc dq_makeInterface dq_nilCheck dq_slice dq_binOp dq_unOp dq_convert dq_b_len dq_b_cap dq_b_min dq_b_max
attribute [go_sem] bin_leql bin_lneq bin_ieql bin_ineq bin_ifc orD_some orD_none bytesD_map
attribute [go_sem] decide_true decide_false pureRun_pure Bool.not_true Bool.not_false Bool.true_or Bool.false_or Bool.or_true Bool.or_false Bool.true_and Bool.false_and Bool.and_true Bool.and_false dg_tt dg_ff dg_tf dg_ft dg_no dIf_t dIf_f slotN_int slotN_succ List.length_map Int.toNat_natCast dwp_skip dwp_label dwp_exit dwp_ret dwp_seq dwp_block dwp_loop dwp_cond dwp_region dwp_draw then_normal then_exit then_ret block_normal block_ret block_eq block_ne dnext_eq gtmp_zero gtmp_succ dguardT_some dops_nil dops_plain dops_guard onValS_some dop_move dop_assign dop_pick dop_load dop_fieldAddr dop_field dop_indexAddr dop_index dop_extract dop_makeFunc dop_makeInterface dop_nilCheck dop_slice dop_binOp dop_unOp dop_convert dop_b_len dop_b_cap dop_b_min dop_b_max dop_buildSlice dop_build dop_alloc dop_box dop_store dop_call dop_append dop_copy dop_invoke winOff_zero dcall_fn put_eq put_ne put_none argF_zero argF_succ argF_nil ofV_int ofV_bool ofV_string ofV_nil ofV_iface ofV_func ofV_ptr bin_add bin_sub bin_mul bin_eql bin_neq bin_lss bin_leq bin_gtr bin_geq bin_seql bin_sneq bin_slss bin_sgtr bin_sleq bin_sgeq un_not un_neg bu_max bu_min add_next set_next grow_next grow_full_ob grow_row_ob pfin_ret pfin_normal pfin_ret2 pfin_normal2 list_of_array dstore dappend dval dnew ev rdOk rdVal splice true_and and_true cond_true cond_false List.map_cons List.map_nil List.length_cons List.length_nil List.take_succ_cons List.take_zero List.drop_succ_cons List.drop_zero List.getD_cons_zero List.getD_cons_succ List.cons_append List.nil_append List.append_nil ne_eq not_false_eq_true Nat.zero_add Nat.add_zero Option.map_some
section
theorem fillD_nil (pl : Nat → Option (Nat × Nat)) (cs : List D) : fillD pl cs [] = (True, cs) := by unfold fillD; exact Eq.trans (Eq.refl _) (Eq.refl _)
def fillS (o : Option (Nat × Nat)) (pl : Nat → Option (Nat × Nat)) (cs : List D) (d : D) (r : List (Nat × D)) : Prop × List D := match o with
  | some (off, n) => (d.okCell = true ∧ d.width = n ∧ off + n ≤ cs.length ∧ (fillD pl (splice cs off d.cells) r).1, (fillD pl (splice cs off d.cells) r).2)
  | none => (False, cs)
theorem fillD_cons (pl : Nat → Option (Nat × Nat)) (cs : List D) (i : Nat) (d : D) (r : List (Nat × D)) : fillD pl cs ((i, d) :: r) = fillS (pl i) pl cs d r := by
  rw [fillD]; unfold fillS; cases pl i <;> rfl
theorem fillS_some (off n : Nat) (pl : Nat → Option (Nat × Nat)) (cs : List D) (d : D) (r : List (Nat × D)) : fillS (some (off, n)) pl cs d r = (d.okCell = true ∧ d.width = n ∧ off + n ≤ cs.length ∧ (fillD pl (splice cs off d.cells) r).1, (fillD pl (splice cs off d.cells) r).2) := Eq.trans (Eq.refl _) (Eq.refl _)
attribute [go_sem] fillD_nil fillD_cons fillS_some
def dcellR (P : Program) (S' : St) (t : TypeId) (x : D) (K : D → Prop) : Prop := match x with
  | .loc k off => match S'.ob k with
    | some (.box _ cs) => rdOk P t cs off ∧ K (rdVal P t cs off)
    | _ => False
  | _ => False
theorem onVal_cell {P : Program} {f : Fm} {S' : St} (x : Tmp) (t : TypeId) (K : D → Prop) : onVal (dres P f S' (.cell x t)) K = dcellR P S' t (f x) K := by
  show onVal (match f x with | .loc k off => (match S'.ob k with | some (.box _ cs) => some (rdOk P t cs off, rdVal P t cs off) | _ => none) | _ => none) K = _
  unfold dcellR
  cases f x with
  | loc k off =>
    show onVal (match S'.ob k with | some (.box _ cs) => some (rdOk P t cs off, rdVal P t cs off) | _ => none) K = (match S'.ob k with | some (.box _ cs) => rdOk P t cs off ∧ K (rdVal P t cs off) | _ => False)
    cases S'.ob k with
    | none => rfl
    | some o => cases o <;> rfl
  | _ => rfl
theorem pfin_cell_normal {P : Program} {S : St} {f : Fm} (x : Tmp) (t : TypeId) (S' : St) (d : D) : DQ.pfin P [.cell x t] S d .normal f S' = dcellR P S' t (f x) (fun r => PFin S S' r d) := onVal_cell x t _
theorem pfin_cell_ret {P : Program} {S : St} {f : Fm} (x : Tmp) (t : TypeId) (S' : St) (d : D) : DQ.pfin P [.cell x t] S d .ret f S' = dcellR P S' t (f x) (fun r => PFin S S' r d) := onVal_cell x t _
attribute [go_sem] pfin_cell_normal pfin_cell_ret dcellR
end
end Go.Proofs.YtbcabejdchkpmaaGreatDoor

namespace Go.Proofs.YtbcabejdchkpmaaGreatDoor

@[go_sem] theorem okT_1 : okT Tryz.prog 1 = true := by kernel_rfl
@[go_sem] theorem szOf_1 : szOf Tryz.prog 1 = 1 := by kernel_rfl
@[go_sem] theorem aggT_1 : aggT Tryz.prog 1 = false := by kernel_rfl
@[go_sem] theorem undS_1 : (Tryz.prog.underlying 1).isSome = true := by kernel_rfl
@[go_sem] theorem infS_1 : (Tryz.prog.info? 1).isSome = true := by kernel_rfl
@[go_sem] theorem ifaceT_1 : ifaceT Tryz.prog 1 = false := by kernel_rfl
@[go_sem] theorem ptrT_1 : ptrT Tryz.prog 1 = false := by kernel_rfl
@[go_sem] theorem zeroT_1 : zeroT Tryz.prog 1 = true := by kernel_rfl
@[go_sem] theorem zeroOk_1 : zeroOk Tryz.prog 1 = true := by kernel_rfl
@[go_sem] theorem bytesOf_1 : bytesOf Tryz.prog 1 = 8 := by kernel_rfl
@[go_sem] theorem zeroD_1 : zeroD Tryz.prog 1 = [.v .nilFunc] := by kernel_rfl
@[go_sem] theorem okT_2 : okT Tryz.prog 2 = true := by kernel_rfl
@[go_sem] theorem szOf_2 : szOf Tryz.prog 2 = 1 := by kernel_rfl
@[go_sem] theorem aggT_2 : aggT Tryz.prog 2 = false := by kernel_rfl
@[go_sem] theorem undS_2 : (Tryz.prog.underlying 2).isSome = true := by kernel_rfl
@[go_sem] theorem infS_2 : (Tryz.prog.info? 2).isSome = true := by kernel_rfl
@[go_sem] theorem ifaceT_2 : ifaceT Tryz.prog 2 = false := by kernel_rfl
@[go_sem] theorem ptrT_2 : ptrT Tryz.prog 2 = false := by kernel_rfl
@[go_sem] theorem zeroT_2 : zeroT Tryz.prog 2 = true := by kernel_rfl
@[go_sem] theorem zeroOk_2 : zeroOk Tryz.prog 2 = true := by kernel_rfl
@[go_sem] theorem bytesOf_2 : bytesOf Tryz.prog 2 = 8 := by kernel_rfl
@[go_sem] theorem zeroD_2 : zeroD Tryz.prog 2 = [.v (.int .i64 0)] := by kernel_rfl
@[go_sem] theorem okT_3 : okT Tryz.prog 3 = true := by kernel_rfl
@[go_sem] theorem szOf_3 : szOf Tryz.prog 3 = 1 := by kernel_rfl
@[go_sem] theorem aggT_3 : aggT Tryz.prog 3 = false := by kernel_rfl
@[go_sem] theorem undS_3 : (Tryz.prog.underlying 3).isSome = true := by kernel_rfl
@[go_sem] theorem infS_3 : (Tryz.prog.info? 3).isSome = true := by kernel_rfl
@[go_sem] theorem ifaceT_3 : ifaceT Tryz.prog 3 = false := by kernel_rfl
@[go_sem] theorem ptrT_3 : ptrT Tryz.prog 3 = false := by kernel_rfl
@[go_sem] theorem zeroT_3 : zeroT Tryz.prog 3 = true := by kernel_rfl
@[go_sem] theorem zeroOk_3 : zeroOk Tryz.prog 3 = true := by kernel_rfl
@[go_sem] theorem bytesOf_3 : bytesOf Tryz.prog 3 = 8 := by kernel_rfl
@[go_sem] theorem zeroD_3 : zeroD Tryz.prog 3 = [.v (.int .i64 0)] := by kernel_rfl
@[go_sem] theorem okT_4 : okT Tryz.prog 4 = true := by kernel_rfl
@[go_sem] theorem szOf_4 : szOf Tryz.prog 4 = 1 := by kernel_rfl
@[go_sem] theorem aggT_4 : aggT Tryz.prog 4 = false := by kernel_rfl
@[go_sem] theorem undS_4 : (Tryz.prog.underlying 4).isSome = true := by kernel_rfl
@[go_sem] theorem infS_4 : (Tryz.prog.info? 4).isSome = true := by kernel_rfl
@[go_sem] theorem ifaceT_4 : ifaceT Tryz.prog 4 = false := by kernel_rfl
@[go_sem] theorem ptrT_4 : ptrT Tryz.prog 4 = false := by kernel_rfl
@[go_sem] theorem zeroT_4 : zeroT Tryz.prog 4 = true := by kernel_rfl
@[go_sem] theorem zeroOk_4 : zeroOk Tryz.prog 4 = true := by kernel_rfl
@[go_sem] theorem bytesOf_4 : bytesOf Tryz.prog 4 = 1 := by kernel_rfl
@[go_sem] theorem zeroD_4 : zeroD Tryz.prog 4 = [.v (.bool false)] := by kernel_rfl
@[go_sem] theorem okT_5 : okT Tryz.prog 5 = true := by kernel_rfl
@[go_sem] theorem szOf_5 : szOf Tryz.prog 5 = 1 := by kernel_rfl
@[go_sem] theorem aggT_5 : aggT Tryz.prog 5 = false := by kernel_rfl
@[go_sem] theorem undS_5 : (Tryz.prog.underlying 5).isSome = true := by kernel_rfl
@[go_sem] theorem infS_5 : (Tryz.prog.info? 5).isSome = true := by kernel_rfl
@[go_sem] theorem ifaceT_5 : ifaceT Tryz.prog 5 = false := by kernel_rfl
@[go_sem] theorem ptrT_5 : ptrT Tryz.prog 5 = false := by kernel_rfl
@[go_sem] theorem zeroT_5 : zeroT Tryz.prog 5 = true := by kernel_rfl
@[go_sem] theorem zeroOk_5 : zeroOk Tryz.prog 5 = true := by kernel_rfl
@[go_sem] theorem bytesOf_5 : bytesOf Tryz.prog 5 = 1 := by kernel_rfl
@[go_sem] theorem zeroD_5 : zeroD Tryz.prog 5 = [.v (.int .u8 0)] := by kernel_rfl
@[go_sem] theorem okT_6 : okT Tryz.prog 6 = true := by kernel_rfl
@[go_sem] theorem szOf_6 : szOf Tryz.prog 6 = 1 := by kernel_rfl
@[go_sem] theorem aggT_6 : aggT Tryz.prog 6 = false := by kernel_rfl
@[go_sem] theorem undS_6 : (Tryz.prog.underlying 6).isSome = true := by kernel_rfl
@[go_sem] theorem infS_6 : (Tryz.prog.info? 6).isSome = true := by kernel_rfl
@[go_sem] theorem ifaceT_6 : ifaceT Tryz.prog 6 = false := by kernel_rfl
@[go_sem] theorem ptrT_6 : ptrT Tryz.prog 6 = false := by kernel_rfl
@[go_sem] theorem zeroT_6 : zeroT Tryz.prog 6 = true := by kernel_rfl
@[go_sem] theorem zeroOk_6 : zeroOk Tryz.prog 6 = true := by kernel_rfl
@[go_sem] theorem bytesOf_6 : bytesOf Tryz.prog 6 = 1 := by kernel_rfl
@[go_sem] theorem zeroD_6 : zeroD Tryz.prog 6 = [.v (.int .u8 0)] := by kernel_rfl
@[go_sem] theorem okT_7 : okT Tryz.prog 7 = true := by kernel_rfl
@[go_sem] theorem szOf_7 : szOf Tryz.prog 7 = 4 := by kernel_rfl
@[go_sem] theorem aggT_7 : aggT Tryz.prog 7 = true := by kernel_rfl
@[go_sem] theorem undS_7 : (Tryz.prog.underlying 7).isSome = true := by kernel_rfl
@[go_sem] theorem infS_7 : (Tryz.prog.info? 7).isSome = true := by kernel_rfl
@[go_sem] theorem ifaceT_7 : ifaceT Tryz.prog 7 = false := by kernel_rfl
@[go_sem] theorem ptrT_7 : ptrT Tryz.prog 7 = false := by kernel_rfl
@[go_sem] theorem zeroT_7 : zeroT Tryz.prog 7 = true := by kernel_rfl
@[go_sem] theorem zeroOk_7 : zeroOk Tryz.prog 7 = true := by kernel_rfl
@[go_sem] theorem bytesOf_7 : bytesOf Tryz.prog 7 = 24 := by kernel_rfl
@[go_sem] theorem zeroD_7 : zeroD Tryz.prog 7 = [.v (.int .i64 0), .v (.int .i64 0), .v (.bool false), .v (.int .u8 0)] := by kernel_rfl
@[go_sem] theorem fld_7_0 : fld Tryz.prog 7 0 = some (0, 2) := by kernel_rfl
@[go_sem] theorem fld_7_1 : fld Tryz.prog 7 1 = some (1, 3) := by kernel_rfl
@[go_sem] theorem fld_7_2 : fld Tryz.prog 7 2 = some (2, 4) := by kernel_rfl
@[go_sem] theorem fld_7_3 : fld Tryz.prog 7 3 = some (3, 6) := by kernel_rfl
@[go_sem] theorem okT_8 : okT Tryz.prog 8 = true := by kernel_rfl
@[go_sem] theorem szOf_8 : szOf Tryz.prog 8 = 4 := by kernel_rfl
@[go_sem] theorem aggT_8 : aggT Tryz.prog 8 = true := by kernel_rfl
@[go_sem] theorem undS_8 : (Tryz.prog.underlying 8).isSome = true := by kernel_rfl
@[go_sem] theorem infS_8 : (Tryz.prog.info? 8).isSome = true := by kernel_rfl
@[go_sem] theorem ifaceT_8 : ifaceT Tryz.prog 8 = false := by kernel_rfl
@[go_sem] theorem ptrT_8 : ptrT Tryz.prog 8 = false := by kernel_rfl
@[go_sem] theorem zeroT_8 : zeroT Tryz.prog 8 = true := by kernel_rfl
@[go_sem] theorem zeroOk_8 : zeroOk Tryz.prog 8 = true := by kernel_rfl
@[go_sem] theorem bytesOf_8 : bytesOf Tryz.prog 8 = 24 := by kernel_rfl
@[go_sem] theorem zeroD_8 : zeroD Tryz.prog 8 = [.v (.int .i64 0), .v (.int .i64 0), .v (.bool false), .v (.int .u8 0)] := by kernel_rfl
@[go_sem] theorem fld_8_0 : fld Tryz.prog 8 0 = some (0, 2) := by kernel_rfl
@[go_sem] theorem fld_8_1 : fld Tryz.prog 8 1 = some (1, 3) := by kernel_rfl
@[go_sem] theorem fld_8_2 : fld Tryz.prog 8 2 = some (2, 4) := by kernel_rfl
@[go_sem] theorem fld_8_3 : fld Tryz.prog 8 3 = some (3, 6) := by kernel_rfl
@[go_sem] theorem okT_9 : okT Tryz.prog 9 = true := by kernel_rfl
@[go_sem] theorem szOf_9 : szOf Tryz.prog 9 = 1 := by kernel_rfl
@[go_sem] theorem aggT_9 : aggT Tryz.prog 9 = false := by kernel_rfl
@[go_sem] theorem undS_9 : (Tryz.prog.underlying 9).isSome = true := by kernel_rfl
@[go_sem] theorem infS_9 : (Tryz.prog.info? 9).isSome = true := by kernel_rfl
@[go_sem] theorem ifaceT_9 : ifaceT Tryz.prog 9 = false := by kernel_rfl
@[go_sem] theorem ptrT_9 : ptrT Tryz.prog 9 = false := by kernel_rfl
@[go_sem] theorem zeroT_9 : zeroT Tryz.prog 9 = true := by kernel_rfl
@[go_sem] theorem zeroOk_9 : zeroOk Tryz.prog 9 = true := by kernel_rfl
@[go_sem] theorem bytesOf_9 : bytesOf Tryz.prog 9 = 16 := by kernel_rfl
@[go_sem] theorem zeroD_9 : zeroD Tryz.prog 9 = [.v (.string ⟨#[]⟩)] := by kernel_rfl
@[go_sem] theorem strT_9 : strT Tryz.prog 9 = true := by kernel_rfl
@[go_sem] theorem bul_9 (s : ByteArray) (ty : TypeId) (cs : Array Bool) : dbuiltin Tryz.prog .len #[9] ty cs [.v (.string s)] = some (True, .v (.int .i64 s.size)) := bu_slen s _ ty cs strT_9
@[go_sem] theorem okT_10 : okT Tryz.prog 10 = true := by kernel_rfl
@[go_sem] theorem szOf_10 : szOf Tryz.prog 10 = 1 := by kernel_rfl
@[go_sem] theorem aggT_10 : aggT Tryz.prog 10 = false := by kernel_rfl
@[go_sem] theorem undS_10 : (Tryz.prog.underlying 10).isSome = true := by kernel_rfl
@[go_sem] theorem infS_10 : (Tryz.prog.info? 10).isSome = true := by kernel_rfl
@[go_sem] theorem ifaceT_10 : ifaceT Tryz.prog 10 = false := by kernel_rfl
@[go_sem] theorem ptrT_10 : ptrT Tryz.prog 10 = false := by kernel_rfl
@[go_sem] theorem zeroT_10 : zeroT Tryz.prog 10 = true := by kernel_rfl
@[go_sem] theorem zeroOk_10 : zeroOk Tryz.prog 10 = true := by kernel_rfl
@[go_sem] theorem bytesOf_10 : bytesOf Tryz.prog 10 = 16 := by kernel_rfl
@[go_sem] theorem zeroD_10 : zeroD Tryz.prog 10 = [.v (.string ⟨#[]⟩)] := by kernel_rfl
@[go_sem] theorem strT_10 : strT Tryz.prog 10 = true := by kernel_rfl
@[go_sem] theorem bul_10 (s : ByteArray) (ty : TypeId) (cs : Array Bool) : dbuiltin Tryz.prog .len #[10] ty cs [.v (.string s)] = some (True, .v (.int .i64 s.size)) := bu_slen s _ ty cs strT_10
@[go_sem] theorem okT_11 : okT Tryz.prog 11 = true := by kernel_rfl
@[go_sem] theorem szOf_11 : szOf Tryz.prog 11 = 1 := by kernel_rfl
@[go_sem] theorem aggT_11 : aggT Tryz.prog 11 = false := by kernel_rfl
@[go_sem] theorem undS_11 : (Tryz.prog.underlying 11).isSome = true := by kernel_rfl
@[go_sem] theorem infS_11 : (Tryz.prog.info? 11).isSome = true := by kernel_rfl
@[go_sem] theorem ifaceT_11 : ifaceT Tryz.prog 11 = false := by kernel_rfl
@[go_sem] theorem ptrT_11 : ptrT Tryz.prog 11 = false := by kernel_rfl
@[go_sem] theorem zeroT_11 : zeroT Tryz.prog 11 = true := by kernel_rfl
@[go_sem] theorem zeroOk_11 : zeroOk Tryz.prog 11 = true := by kernel_rfl
@[go_sem] theorem bytesOf_11 : bytesOf Tryz.prog 11 = 16 := by kernel_rfl
@[go_sem] theorem zeroD_11 : zeroD Tryz.prog 11 = [.v (.string ⟨#[]⟩)] := by kernel_rfl
@[go_sem] theorem strT_11 : strT Tryz.prog 11 = true := by kernel_rfl
@[go_sem] theorem bul_11 (s : ByteArray) (ty : TypeId) (cs : Array Bool) : dbuiltin Tryz.prog .len #[11] ty cs [.v (.string s)] = some (True, .v (.int .i64 s.size)) := bu_slen s _ ty cs strT_11
@[go_sem] theorem okT_12 : okT Tryz.prog 12 = true := by kernel_rfl
@[go_sem] theorem szOf_12 : szOf Tryz.prog 12 = 1 := by kernel_rfl
@[go_sem] theorem aggT_12 : aggT Tryz.prog 12 = false := by kernel_rfl
@[go_sem] theorem undS_12 : (Tryz.prog.underlying 12).isSome = true := by kernel_rfl
@[go_sem] theorem infS_12 : (Tryz.prog.info? 12).isSome = true := by kernel_rfl
@[go_sem] theorem ifaceT_12 : ifaceT Tryz.prog 12 = false := by kernel_rfl
@[go_sem] theorem ptrT_12 : ptrT Tryz.prog 12 = false := by kernel_rfl
@[go_sem] theorem zeroT_12 : zeroT Tryz.prog 12 = true := by kernel_rfl
@[go_sem] theorem zeroOk_12 : zeroOk Tryz.prog 12 = true := by kernel_rfl
@[go_sem] theorem bytesOf_12 : bytesOf Tryz.prog 12 = 8 := by kernel_rfl
@[go_sem] theorem zeroD_12 : zeroD Tryz.prog 12 = [.v (.int .u64 0)] := by kernel_rfl
@[go_sem] theorem okT_13 : okT Tryz.prog 13 = true := by kernel_rfl
@[go_sem] theorem szOf_13 : szOf Tryz.prog 13 = 2 := by kernel_rfl
@[go_sem] theorem aggT_13 : aggT Tryz.prog 13 = true := by kernel_rfl
@[go_sem] theorem undS_13 : (Tryz.prog.underlying 13).isSome = true := by kernel_rfl
@[go_sem] theorem infS_13 : (Tryz.prog.info? 13).isSome = true := by kernel_rfl
@[go_sem] theorem ifaceT_13 : ifaceT Tryz.prog 13 = false := by kernel_rfl
@[go_sem] theorem ptrT_13 : ptrT Tryz.prog 13 = false := by kernel_rfl
@[go_sem] theorem zeroT_13 : zeroT Tryz.prog 13 = true := by kernel_rfl
@[go_sem] theorem zeroOk_13 : zeroOk Tryz.prog 13 = true := by kernel_rfl
@[go_sem] theorem bytesOf_13 : bytesOf Tryz.prog 13 = 24 := by kernel_rfl
@[go_sem] theorem zeroD_13 : zeroD Tryz.prog 13 = [.v (.string ⟨#[]⟩), .v (.int .u64 0)] := by kernel_rfl
@[go_sem] theorem fld_13_0 : fld Tryz.prog 13 0 = some (0, 9) := by kernel_rfl
@[go_sem] theorem fld_13_1 : fld Tryz.prog 13 1 = some (1, 12) := by kernel_rfl
@[go_sem] theorem okT_14 : okT Tryz.prog 14 = true := by kernel_rfl
@[go_sem] theorem szOf_14 : szOf Tryz.prog 14 = 2 := by kernel_rfl
@[go_sem] theorem aggT_14 : aggT Tryz.prog 14 = true := by kernel_rfl
@[go_sem] theorem undS_14 : (Tryz.prog.underlying 14).isSome = true := by kernel_rfl
@[go_sem] theorem infS_14 : (Tryz.prog.info? 14).isSome = true := by kernel_rfl
@[go_sem] theorem ifaceT_14 : ifaceT Tryz.prog 14 = false := by kernel_rfl
@[go_sem] theorem ptrT_14 : ptrT Tryz.prog 14 = false := by kernel_rfl
@[go_sem] theorem zeroT_14 : zeroT Tryz.prog 14 = true := by kernel_rfl
@[go_sem] theorem zeroOk_14 : zeroOk Tryz.prog 14 = true := by kernel_rfl
@[go_sem] theorem bytesOf_14 : bytesOf Tryz.prog 14 = 24 := by kernel_rfl
@[go_sem] theorem zeroD_14 : zeroD Tryz.prog 14 = [.v (.string ⟨#[]⟩), .v (.int .u64 0)] := by kernel_rfl
@[go_sem] theorem fld_14_0 : fld Tryz.prog 14 0 = some (0, 9) := by kernel_rfl
@[go_sem] theorem fld_14_1 : fld Tryz.prog 14 1 = some (1, 12) := by kernel_rfl
@[go_sem] theorem okT_15 : okT Tryz.prog 15 = true := by kernel_rfl
@[go_sem] theorem szOf_15 : szOf Tryz.prog 15 = 1 := by kernel_rfl
@[go_sem] theorem aggT_15 : aggT Tryz.prog 15 = false := by kernel_rfl
@[go_sem] theorem undS_15 : (Tryz.prog.underlying 15).isSome = true := by kernel_rfl
@[go_sem] theorem infS_15 : (Tryz.prog.info? 15).isSome = true := by kernel_rfl
@[go_sem] theorem ifaceT_15 : ifaceT Tryz.prog 15 = false := by kernel_rfl
@[go_sem] theorem ptrT_15 : ptrT Tryz.prog 15 = true := by kernel_rfl
@[go_sem] theorem zeroT_15 : zeroT Tryz.prog 15 = true := by kernel_rfl
@[go_sem] theorem zeroOk_15 : zeroOk Tryz.prog 15 = true := by kernel_rfl
@[go_sem] theorem bytesOf_15 : bytesOf Tryz.prog 15 = 8 := by kernel_rfl
@[go_sem] theorem zeroD_15 : zeroD Tryz.prog 15 = [.v (.pointer none)] := by kernel_rfl
@[go_sem] theorem okT_17 : okT Tryz.prog 17 = true := by kernel_rfl
@[go_sem] theorem szOf_17 : szOf Tryz.prog 17 = 1 := by kernel_rfl
@[go_sem] theorem aggT_17 : aggT Tryz.prog 17 = false := by kernel_rfl
@[go_sem] theorem undS_17 : (Tryz.prog.underlying 17).isSome = true := by kernel_rfl
@[go_sem] theorem infS_17 : (Tryz.prog.info? 17).isSome = true := by kernel_rfl
@[go_sem] theorem ifaceT_17 : ifaceT Tryz.prog 17 = false := by kernel_rfl
@[go_sem] theorem ptrT_17 : ptrT Tryz.prog 17 = true := by kernel_rfl
@[go_sem] theorem zeroT_17 : zeroT Tryz.prog 17 = true := by kernel_rfl
@[go_sem] theorem zeroOk_17 : zeroOk Tryz.prog 17 = true := by kernel_rfl
@[go_sem] theorem bytesOf_17 : bytesOf Tryz.prog 17 = 8 := by kernel_rfl
@[go_sem] theorem zeroD_17 : zeroD Tryz.prog 17 = [.v (.pointer none)] := by kernel_rfl
@[go_sem] theorem okT_19 : okT Tryz.prog 19 = true := by kernel_rfl
@[go_sem] theorem szOf_19 : szOf Tryz.prog 19 = 1 := by kernel_rfl
@[go_sem] theorem aggT_19 : aggT Tryz.prog 19 = true := by kernel_rfl
@[go_sem] theorem undS_19 : (Tryz.prog.underlying 19).isSome = true := by kernel_rfl
@[go_sem] theorem infS_19 : (Tryz.prog.info? 19).isSome = true := by kernel_rfl
@[go_sem] theorem ifaceT_19 : ifaceT Tryz.prog 19 = false := by kernel_rfl
@[go_sem] theorem ptrT_19 : ptrT Tryz.prog 19 = false := by kernel_rfl
@[go_sem] theorem zeroT_19 : zeroT Tryz.prog 19 = true := by kernel_rfl
@[go_sem] theorem zeroOk_19 : zeroOk Tryz.prog 19 = true := by kernel_rfl
@[go_sem] theorem bytesOf_19 : bytesOf Tryz.prog 19 = 8 := by kernel_rfl
@[go_sem] theorem zeroD_19 : zeroD Tryz.prog 19 = [.v (.pointer none)] := by kernel_rfl
@[go_sem] theorem fld_19_0 : fld Tryz.prog 19 0 = some (0, 17) := by kernel_rfl
@[go_sem] theorem okT_20 : okT Tryz.prog 20 = true := by kernel_rfl
@[go_sem] theorem szOf_20 : szOf Tryz.prog 20 = 1 := by kernel_rfl
@[go_sem] theorem aggT_20 : aggT Tryz.prog 20 = false := by kernel_rfl
@[go_sem] theorem undS_20 : (Tryz.prog.underlying 20).isSome = true := by kernel_rfl
@[go_sem] theorem infS_20 : (Tryz.prog.info? 20).isSome = true := by kernel_rfl
@[go_sem] theorem ifaceT_20 : ifaceT Tryz.prog 20 = true := by kernel_rfl
@[go_sem] theorem ptrT_20 : ptrT Tryz.prog 20 = false := by kernel_rfl
@[go_sem] theorem zeroT_20 : zeroT Tryz.prog 20 = true := by kernel_rfl
@[go_sem] theorem zeroOk_20 : zeroOk Tryz.prog 20 = true := by kernel_rfl
@[go_sem] theorem bytesOf_20 : bytesOf Tryz.prog 20 = 16 := by kernel_rfl
@[go_sem] theorem zeroD_20 : zeroD Tryz.prog 20 = [.v .nilIface] := by kernel_rfl
@[go_sem] theorem okT_21 : okT Tryz.prog 21 = true := by kernel_rfl
@[go_sem] theorem szOf_21 : szOf Tryz.prog 21 = 1 := by kernel_rfl
@[go_sem] theorem aggT_21 : aggT Tryz.prog 21 = false := by kernel_rfl
@[go_sem] theorem undS_21 : (Tryz.prog.underlying 21).isSome = true := by kernel_rfl
@[go_sem] theorem infS_21 : (Tryz.prog.info? 21).isSome = true := by kernel_rfl
@[go_sem] theorem ifaceT_21 : ifaceT Tryz.prog 21 = false := by kernel_rfl
@[go_sem] theorem ptrT_21 : ptrT Tryz.prog 21 = false := by kernel_rfl
@[go_sem] theorem zeroT_21 : zeroT Tryz.prog 21 = true := by kernel_rfl
@[go_sem] theorem zeroOk_21 : zeroOk Tryz.prog 21 = true := by kernel_rfl
@[go_sem] theorem bytesOf_21 : bytesOf Tryz.prog 21 = 4 := by kernel_rfl
@[go_sem] theorem zeroD_21 : zeroD Tryz.prog 21 = [.v (.int .i32 0)] := by kernel_rfl
@[go_sem] theorem okT_22 : okT Tryz.prog 22 = true := by kernel_rfl
@[go_sem] theorem szOf_22 : szOf Tryz.prog 22 = 1 := by kernel_rfl
@[go_sem] theorem aggT_22 : aggT Tryz.prog 22 = false := by kernel_rfl
@[go_sem] theorem undS_22 : (Tryz.prog.underlying 22).isSome = true := by kernel_rfl
@[go_sem] theorem infS_22 : (Tryz.prog.info? 22).isSome = true := by kernel_rfl
@[go_sem] theorem ifaceT_22 : ifaceT Tryz.prog 22 = false := by kernel_rfl
@[go_sem] theorem ptrT_22 : ptrT Tryz.prog 22 = false := by kernel_rfl
@[go_sem] theorem zeroT_22 : zeroT Tryz.prog 22 = true := by kernel_rfl
@[go_sem] theorem zeroOk_22 : zeroOk Tryz.prog 22 = true := by kernel_rfl
@[go_sem] theorem bytesOf_22 : bytesOf Tryz.prog 22 = 24 := by kernel_rfl
@[go_sem] theorem zeroD_22 : zeroD Tryz.prog 22 = [.sl .full []] := by kernel_rfl
@[go_sem] theorem elT_22 : elT Tryz.prog 22 = some 9 := by kernel_rfl
@[go_sem] theorem bul_22 (own : Own) (es : List D) (ty : TypeId) (cs : Array Bool) : dbuiltin Tryz.prog .len #[22] ty cs [.sl own es] = some (True, .v (.int .i64 es.length)) := bu_len own es _ ty cs elT_22
@[go_sem] theorem bwl_22 (k off n c : Nat) (ty : TypeId) (cs : Array Bool) : dbuiltin Tryz.prog .len #[22] ty cs [.win k off n c] = some (True, .v (.int .i64 n)) := bu_wlen k off n c _ ty cs elT_22
@[go_sem] theorem bwc_22 (k off n c : Nat) (ty : TypeId) (cs : Array Bool) : dbuiltin Tryz.prog .cap #[22] ty cs [.win k off n c] = some (True, .v (.int .i64 c)) := bu_wcap k off n c _ ty cs elT_22
@[go_sem] theorem okT_23 : okT Tryz.prog 23 = true := by kernel_rfl
@[go_sem] theorem szOf_23 : szOf Tryz.prog 23 = 1 := by kernel_rfl
@[go_sem] theorem aggT_23 : aggT Tryz.prog 23 = false := by kernel_rfl
@[go_sem] theorem undS_23 : (Tryz.prog.underlying 23).isSome = true := by kernel_rfl
@[go_sem] theorem infS_23 : (Tryz.prog.info? 23).isSome = true := by kernel_rfl
@[go_sem] theorem ifaceT_23 : ifaceT Tryz.prog 23 = false := by kernel_rfl
@[go_sem] theorem ptrT_23 : ptrT Tryz.prog 23 = false := by kernel_rfl
@[go_sem] theorem zeroT_23 : zeroT Tryz.prog 23 = true := by kernel_rfl
@[go_sem] theorem zeroOk_23 : zeroOk Tryz.prog 23 = true := by kernel_rfl
@[go_sem] theorem bytesOf_23 : bytesOf Tryz.prog 23 = 24 := by kernel_rfl
@[go_sem] theorem zeroD_23 : zeroD Tryz.prog 23 = [.sl .full []] := by kernel_rfl
@[go_sem] theorem elT_23 : elT Tryz.prog 23 = some 54 := by kernel_rfl
@[go_sem] theorem bul_23 (own : Own) (es : List D) (ty : TypeId) (cs : Array Bool) : dbuiltin Tryz.prog .len #[23] ty cs [.sl own es] = some (True, .v (.int .i64 es.length)) := bu_len own es _ ty cs elT_23
@[go_sem] theorem bwl_23 (k off n c : Nat) (ty : TypeId) (cs : Array Bool) : dbuiltin Tryz.prog .len #[23] ty cs [.win k off n c] = some (True, .v (.int .i64 n)) := bu_wlen k off n c _ ty cs elT_23
@[go_sem] theorem bwc_23 (k off n c : Nat) (ty : TypeId) (cs : Array Bool) : dbuiltin Tryz.prog .cap #[23] ty cs [.win k off n c] = some (True, .v (.int .i64 c)) := bu_wcap k off n c _ ty cs elT_23
@[go_sem] theorem okT_24 : okT Tryz.prog 24 = true := by kernel_rfl
@[go_sem] theorem szOf_24 : szOf Tryz.prog 24 = 1 := by kernel_rfl
@[go_sem] theorem aggT_24 : aggT Tryz.prog 24 = false := by kernel_rfl
@[go_sem] theorem undS_24 : (Tryz.prog.underlying 24).isSome = true := by kernel_rfl
@[go_sem] theorem infS_24 : (Tryz.prog.info? 24).isSome = true := by kernel_rfl
@[go_sem] theorem ifaceT_24 : ifaceT Tryz.prog 24 = false := by kernel_rfl
@[go_sem] theorem ptrT_24 : ptrT Tryz.prog 24 = false := by kernel_rfl
@[go_sem] theorem zeroT_24 : zeroT Tryz.prog 24 = true := by kernel_rfl
@[go_sem] theorem zeroOk_24 : zeroOk Tryz.prog 24 = true := by kernel_rfl
@[go_sem] theorem bytesOf_24 : bytesOf Tryz.prog 24 = 24 := by kernel_rfl
@[go_sem] theorem zeroD_24 : zeroD Tryz.prog 24 = [.sl .full []] := by kernel_rfl
@[go_sem] theorem elT_24 : elT Tryz.prog 24 = some 26 := by kernel_rfl
@[go_sem] theorem bul_24 (own : Own) (es : List D) (ty : TypeId) (cs : Array Bool) : dbuiltin Tryz.prog .len #[24] ty cs [.sl own es] = some (True, .v (.int .i64 es.length)) := bu_len own es _ ty cs elT_24
@[go_sem] theorem bwl_24 (k off n c : Nat) (ty : TypeId) (cs : Array Bool) : dbuiltin Tryz.prog .len #[24] ty cs [.win k off n c] = some (True, .v (.int .i64 n)) := bu_wlen k off n c _ ty cs elT_24
@[go_sem] theorem bwc_24 (k off n c : Nat) (ty : TypeId) (cs : Array Bool) : dbuiltin Tryz.prog .cap #[24] ty cs [.win k off n c] = some (True, .v (.int .i64 c)) := bu_wcap k off n c _ ty cs elT_24
@[go_sem] theorem okT_25 : okT Tryz.prog 25 = true := by kernel_rfl
@[go_sem] theorem szOf_25 : szOf Tryz.prog 25 = 6 := by kernel_rfl
@[go_sem] theorem aggT_25 : aggT Tryz.prog 25 = true := by kernel_rfl
@[go_sem] theorem undS_25 : (Tryz.prog.underlying 25).isSome = true := by kernel_rfl
@[go_sem] theorem infS_25 : (Tryz.prog.info? 25).isSome = true := by kernel_rfl
@[go_sem] theorem ifaceT_25 : ifaceT Tryz.prog 25 = false := by kernel_rfl
@[go_sem] theorem ptrT_25 : ptrT Tryz.prog 25 = false := by kernel_rfl
@[go_sem] theorem zeroT_25 : zeroT Tryz.prog 25 = true := by kernel_rfl
@[go_sem] theorem zeroOk_25 : zeroOk Tryz.prog 25 = true := by kernel_rfl
@[go_sem] theorem bytesOf_25 : bytesOf Tryz.prog 25 = 104 := by kernel_rfl
@[go_sem] theorem zeroD_25 : zeroD Tryz.prog 25 = [.v (.int .i64 0), .v (.int .i64 0), .v (.string ⟨#[]⟩), .sl .full [], .sl .full [], .sl .full []] := by kernel_rfl
@[go_sem] theorem fld_25_0 : fld Tryz.prog 25 0 = some (0, 3) := by kernel_rfl
@[go_sem] theorem fld_25_1 : fld Tryz.prog 25 1 = some (1, 3) := by kernel_rfl
@[go_sem] theorem fld_25_2 : fld Tryz.prog 25 2 = some (2, 9) := by kernel_rfl
@[go_sem] theorem fld_25_3 : fld Tryz.prog 25 3 = some (3, 22) := by kernel_rfl
@[go_sem] theorem fld_25_4 : fld Tryz.prog 25 4 = some (4, 23) := by kernel_rfl
@[go_sem] theorem fld_25_5 : fld Tryz.prog 25 5 = some (5, 24) := by kernel_rfl
@[go_sem] theorem okT_26 : okT Tryz.prog 26 = true := by kernel_rfl
@[go_sem] theorem szOf_26 : szOf Tryz.prog 26 = 6 := by kernel_rfl
@[go_sem] theorem aggT_26 : aggT Tryz.prog 26 = true := by kernel_rfl
@[go_sem] theorem undS_26 : (Tryz.prog.underlying 26).isSome = true := by kernel_rfl
@[go_sem] theorem infS_26 : (Tryz.prog.info? 26).isSome = true := by kernel_rfl
@[go_sem] theorem ifaceT_26 : ifaceT Tryz.prog 26 = false := by kernel_rfl
@[go_sem] theorem ptrT_26 : ptrT Tryz.prog 26 = false := by kernel_rfl
@[go_sem] theorem zeroT_26 : zeroT Tryz.prog 26 = true := by kernel_rfl
@[go_sem] theorem zeroOk_26 : zeroOk Tryz.prog 26 = true := by kernel_rfl
@[go_sem] theorem bytesOf_26 : bytesOf Tryz.prog 26 = 104 := by kernel_rfl
@[go_sem] theorem zeroD_26 : zeroD Tryz.prog 26 = [.v (.int .i64 0), .v (.int .i64 0), .v (.string ⟨#[]⟩), .sl .full [], .sl .full [], .sl .full []] := by kernel_rfl
@[go_sem] theorem fld_26_0 : fld Tryz.prog 26 0 = some (0, 3) := by kernel_rfl
@[go_sem] theorem fld_26_1 : fld Tryz.prog 26 1 = some (1, 3) := by kernel_rfl
@[go_sem] theorem fld_26_2 : fld Tryz.prog 26 2 = some (2, 9) := by kernel_rfl
@[go_sem] theorem fld_26_3 : fld Tryz.prog 26 3 = some (3, 22) := by kernel_rfl
@[go_sem] theorem fld_26_4 : fld Tryz.prog 26 4 = some (4, 23) := by kernel_rfl
@[go_sem] theorem fld_26_5 : fld Tryz.prog 26 5 = some (5, 24) := by kernel_rfl
noncomputable def pl26 : Nat → Option (Nat × Nat) := (placeT Tryz.prog 26).getD fun _ => none
@[go_sem] theorem placeT_26 : placeT Tryz.prog 26 = some pl26 := by kernel_rfl
@[go_sem] theorem pl_26_0 : pl26 0 = some (0, 1) := by kernel_rfl
@[go_sem] theorem pl_26_1 : pl26 1 = some (1, 1) := by kernel_rfl
@[go_sem] theorem pl_26_2 : pl26 2 = some (2, 1) := by kernel_rfl
@[go_sem] theorem pl_26_3 : pl26 3 = some (3, 1) := by kernel_rfl
@[go_sem] theorem pl_26_4 : pl26 4 = some (4, 1) := by kernel_rfl
@[go_sem] theorem pl_26_5 : pl26 5 = some (5, 1) := by kernel_rfl
@[go_sem] theorem okT_27 : okT Tryz.prog 27 = true := by kernel_rfl
@[go_sem] theorem szOf_27 : szOf Tryz.prog 27 = 1 := by kernel_rfl
@[go_sem] theorem aggT_27 : aggT Tryz.prog 27 = false := by kernel_rfl
@[go_sem] theorem undS_27 : (Tryz.prog.underlying 27).isSome = true := by kernel_rfl
@[go_sem] theorem infS_27 : (Tryz.prog.info? 27).isSome = true := by kernel_rfl
@[go_sem] theorem ifaceT_27 : ifaceT Tryz.prog 27 = false := by kernel_rfl
@[go_sem] theorem ptrT_27 : ptrT Tryz.prog 27 = false := by kernel_rfl
@[go_sem] theorem zeroT_27 : zeroT Tryz.prog 27 = true := by kernel_rfl
@[go_sem] theorem zeroOk_27 : zeroOk Tryz.prog 27 = true := by kernel_rfl
@[go_sem] theorem bytesOf_27 : bytesOf Tryz.prog 27 = 8 := by kernel_rfl
@[go_sem] theorem zeroD_27 : zeroD Tryz.prog 27 = [.v .nilFunc] := by kernel_rfl
@[go_sem] theorem okT_28 : okT Tryz.prog 28 = true := by kernel_rfl
@[go_sem] theorem szOf_28 : szOf Tryz.prog 28 = 1 := by kernel_rfl
@[go_sem] theorem aggT_28 : aggT Tryz.prog 28 = false := by kernel_rfl
@[go_sem] theorem undS_28 : (Tryz.prog.underlying 28).isSome = true := by kernel_rfl
@[go_sem] theorem infS_28 : (Tryz.prog.info? 28).isSome = true := by kernel_rfl
@[go_sem] theorem ifaceT_28 : ifaceT Tryz.prog 28 = false := by kernel_rfl
@[go_sem] theorem ptrT_28 : ptrT Tryz.prog 28 = false := by kernel_rfl
@[go_sem] theorem zeroT_28 : zeroT Tryz.prog 28 = true := by kernel_rfl
@[go_sem] theorem zeroOk_28 : zeroOk Tryz.prog 28 = true := by kernel_rfl
@[go_sem] theorem bytesOf_28 : bytesOf Tryz.prog 28 = 8 := by kernel_rfl
@[go_sem] theorem zeroD_28 : zeroD Tryz.prog 28 = [.v .nilFunc] := by kernel_rfl
@[go_sem] theorem okT_29 : okT Tryz.prog 29 = true := by kernel_rfl
@[go_sem] theorem szOf_29 : szOf Tryz.prog 29 = 1 := by kernel_rfl
@[go_sem] theorem aggT_29 : aggT Tryz.prog 29 = false := by kernel_rfl
@[go_sem] theorem undS_29 : (Tryz.prog.underlying 29).isSome = true := by kernel_rfl
@[go_sem] theorem infS_29 : (Tryz.prog.info? 29).isSome = true := by kernel_rfl
@[go_sem] theorem ifaceT_29 : ifaceT Tryz.prog 29 = false := by kernel_rfl
@[go_sem] theorem ptrT_29 : ptrT Tryz.prog 29 = false := by kernel_rfl
@[go_sem] theorem zeroT_29 : zeroT Tryz.prog 29 = true := by kernel_rfl
@[go_sem] theorem zeroOk_29 : zeroOk Tryz.prog 29 = true := by kernel_rfl
@[go_sem] theorem bytesOf_29 : bytesOf Tryz.prog 29 = 24 := by kernel_rfl
@[go_sem] theorem zeroD_29 : zeroD Tryz.prog 29 = [.sl .full []] := by kernel_rfl
@[go_sem] theorem elT_29 : elT Tryz.prog 29 = some 5 := by kernel_rfl
@[go_sem] theorem bul_29 (own : Own) (es : List D) (ty : TypeId) (cs : Array Bool) : dbuiltin Tryz.prog .len #[29] ty cs [.sl own es] = some (True, .v (.int .i64 es.length)) := bu_len own es _ ty cs elT_29
@[go_sem] theorem bwl_29 (k off n c : Nat) (ty : TypeId) (cs : Array Bool) : dbuiltin Tryz.prog .len #[29] ty cs [.win k off n c] = some (True, .v (.int .i64 n)) := bu_wlen k off n c _ ty cs elT_29
@[go_sem] theorem bwc_29 (k off n c : Nat) (ty : TypeId) (cs : Array Bool) : dbuiltin Tryz.prog .cap #[29] ty cs [.win k off n c] = some (True, .v (.int .i64 c)) := bu_wcap k off n c _ ty cs elT_29
@[go_sem] theorem okT_31 : okT Tryz.prog 31 = true := by kernel_rfl
@[go_sem] theorem szOf_31 : szOf Tryz.prog 31 = 1 := by kernel_rfl
@[go_sem] theorem aggT_31 : aggT Tryz.prog 31 = false := by kernel_rfl
@[go_sem] theorem undS_31 : (Tryz.prog.underlying 31).isSome = true := by kernel_rfl
@[go_sem] theorem infS_31 : (Tryz.prog.info? 31).isSome = true := by kernel_rfl
@[go_sem] theorem ifaceT_31 : ifaceT Tryz.prog 31 = true := by kernel_rfl
@[go_sem] theorem ptrT_31 : ptrT Tryz.prog 31 = false := by kernel_rfl
@[go_sem] theorem zeroT_31 : zeroT Tryz.prog 31 = true := by kernel_rfl
@[go_sem] theorem zeroOk_31 : zeroOk Tryz.prog 31 = true := by kernel_rfl
@[go_sem] theorem bytesOf_31 : bytesOf Tryz.prog 31 = 16 := by kernel_rfl
@[go_sem] theorem zeroD_31 : zeroD Tryz.prog 31 = [.v .nilIface] := by kernel_rfl
@[go_sem] theorem okT_35 : okT Tryz.prog 35 = true := by kernel_rfl
@[go_sem] theorem szOf_35 : szOf Tryz.prog 35 = 1 := by kernel_rfl
@[go_sem] theorem aggT_35 : aggT Tryz.prog 35 = false := by kernel_rfl
@[go_sem] theorem undS_35 : (Tryz.prog.underlying 35).isSome = true := by kernel_rfl
@[go_sem] theorem infS_35 : (Tryz.prog.info? 35).isSome = true := by kernel_rfl
@[go_sem] theorem ifaceT_35 : ifaceT Tryz.prog 35 = false := by kernel_rfl
@[go_sem] theorem ptrT_35 : ptrT Tryz.prog 35 = false := by kernel_rfl
@[go_sem] theorem zeroT_35 : zeroT Tryz.prog 35 = true := by kernel_rfl
@[go_sem] theorem zeroOk_35 : zeroOk Tryz.prog 35 = true := by kernel_rfl
@[go_sem] theorem bytesOf_35 : bytesOf Tryz.prog 35 = 8 := by kernel_rfl
@[go_sem] theorem zeroD_35 : zeroD Tryz.prog 35 = [.v .nilFunc] := by kernel_rfl
@[go_sem] theorem okT_37 : okT Tryz.prog 37 = true := by kernel_rfl
@[go_sem] theorem szOf_37 : szOf Tryz.prog 37 = 1 := by kernel_rfl
@[go_sem] theorem aggT_37 : aggT Tryz.prog 37 = false := by kernel_rfl
@[go_sem] theorem undS_37 : (Tryz.prog.underlying 37).isSome = true := by kernel_rfl
@[go_sem] theorem infS_37 : (Tryz.prog.info? 37).isSome = true := by kernel_rfl
@[go_sem] theorem ifaceT_37 : ifaceT Tryz.prog 37 = false := by kernel_rfl
@[go_sem] theorem ptrT_37 : ptrT Tryz.prog 37 = false := by kernel_rfl
@[go_sem] theorem zeroT_37 : zeroT Tryz.prog 37 = true := by kernel_rfl
@[go_sem] theorem zeroOk_37 : zeroOk Tryz.prog 37 = true := by kernel_rfl
@[go_sem] theorem bytesOf_37 : bytesOf Tryz.prog 37 = 8 := by kernel_rfl
@[go_sem] theorem zeroD_37 : zeroD Tryz.prog 37 = [.v .nilFunc] := by kernel_rfl
@[go_sem] theorem okT_38 : okT Tryz.prog 38 = true := by kernel_rfl
@[go_sem] theorem szOf_38 : szOf Tryz.prog 38 = 1 := by kernel_rfl
@[go_sem] theorem aggT_38 : aggT Tryz.prog 38 = false := by kernel_rfl
@[go_sem] theorem undS_38 : (Tryz.prog.underlying 38).isSome = true := by kernel_rfl
@[go_sem] theorem infS_38 : (Tryz.prog.info? 38).isSome = true := by kernel_rfl
@[go_sem] theorem ifaceT_38 : ifaceT Tryz.prog 38 = false := by kernel_rfl
@[go_sem] theorem ptrT_38 : ptrT Tryz.prog 38 = false := by kernel_rfl
@[go_sem] theorem zeroT_38 : zeroT Tryz.prog 38 = true := by kernel_rfl
@[go_sem] theorem zeroOk_38 : zeroOk Tryz.prog 38 = true := by kernel_rfl
@[go_sem] theorem bytesOf_38 : bytesOf Tryz.prog 38 = 8 := by kernel_rfl
@[go_sem] theorem zeroD_38 : zeroD Tryz.prog 38 = [.v .nilFunc] := by kernel_rfl
@[go_sem] theorem okT_42 : okT Tryz.prog 42 = true := by kernel_rfl
@[go_sem] theorem szOf_42 : szOf Tryz.prog 42 = 1 := by kernel_rfl
@[go_sem] theorem aggT_42 : aggT Tryz.prog 42 = false := by kernel_rfl
@[go_sem] theorem undS_42 : (Tryz.prog.underlying 42).isSome = true := by kernel_rfl
@[go_sem] theorem infS_42 : (Tryz.prog.info? 42).isSome = true := by kernel_rfl
@[go_sem] theorem ifaceT_42 : ifaceT Tryz.prog 42 = false := by kernel_rfl
@[go_sem] theorem ptrT_42 : ptrT Tryz.prog 42 = false := by kernel_rfl
@[go_sem] theorem zeroT_42 : zeroT Tryz.prog 42 = true := by kernel_rfl
@[go_sem] theorem zeroOk_42 : zeroOk Tryz.prog 42 = true := by kernel_rfl
@[go_sem] theorem bytesOf_42 : bytesOf Tryz.prog 42 = 8 := by kernel_rfl
@[go_sem] theorem zeroD_42 : zeroD Tryz.prog 42 = [.v (.int .i64 0)] := by kernel_rfl
@[go_sem] theorem okT_44 : okT Tryz.prog 44 = true := by kernel_rfl
@[go_sem] theorem szOf_44 : szOf Tryz.prog 44 = 1 := by kernel_rfl
@[go_sem] theorem aggT_44 : aggT Tryz.prog 44 = true := by kernel_rfl
@[go_sem] theorem undS_44 : (Tryz.prog.underlying 44).isSome = true := by kernel_rfl
@[go_sem] theorem infS_44 : (Tryz.prog.info? 44).isSome = true := by kernel_rfl
@[go_sem] theorem ifaceT_44 : ifaceT Tryz.prog 44 = false := by kernel_rfl
@[go_sem] theorem ptrT_44 : ptrT Tryz.prog 44 = false := by kernel_rfl
@[go_sem] theorem zeroT_44 : zeroT Tryz.prog 44 = true := by kernel_rfl
@[go_sem] theorem zeroOk_44 : zeroOk Tryz.prog 44 = true := by kernel_rfl
@[go_sem] theorem bytesOf_44 : bytesOf Tryz.prog 44 = 24 := by kernel_rfl
@[go_sem] theorem zeroD_44 : zeroD Tryz.prog 44 = [.sl .full []] := by kernel_rfl
@[go_sem] theorem fld_44_0 : fld Tryz.prog 44 0 = some (0, 29) := by kernel_rfl
@[go_sem] theorem okT_45 : okT Tryz.prog 45 = true := by kernel_rfl
@[go_sem] theorem szOf_45 : szOf Tryz.prog 45 = 1 := by kernel_rfl
@[go_sem] theorem aggT_45 : aggT Tryz.prog 45 = false := by kernel_rfl
@[go_sem] theorem undS_45 : (Tryz.prog.underlying 45).isSome = true := by kernel_rfl
@[go_sem] theorem infS_45 : (Tryz.prog.info? 45).isSome = true := by kernel_rfl
@[go_sem] theorem ifaceT_45 : ifaceT Tryz.prog 45 = false := by kernel_rfl
@[go_sem] theorem ptrT_45 : ptrT Tryz.prog 45 = false := by kernel_rfl
@[go_sem] theorem zeroT_45 : zeroT Tryz.prog 45 = true := by kernel_rfl
@[go_sem] theorem zeroOk_45 : zeroOk Tryz.prog 45 = true := by kernel_rfl
@[go_sem] theorem bytesOf_45 : bytesOf Tryz.prog 45 = 8 := by kernel_rfl
@[go_sem] theorem zeroD_45 : zeroD Tryz.prog 45 = [.v .nilFunc] := by kernel_rfl
@[go_sem] theorem okT_46 : okT Tryz.prog 46 = true := by kernel_rfl
@[go_sem] theorem szOf_46 : szOf Tryz.prog 46 = 1 := by kernel_rfl
@[go_sem] theorem aggT_46 : aggT Tryz.prog 46 = false := by kernel_rfl
@[go_sem] theorem undS_46 : (Tryz.prog.underlying 46).isSome = true := by kernel_rfl
@[go_sem] theorem infS_46 : (Tryz.prog.info? 46).isSome = true := by kernel_rfl
@[go_sem] theorem ifaceT_46 : ifaceT Tryz.prog 46 = false := by kernel_rfl
@[go_sem] theorem ptrT_46 : ptrT Tryz.prog 46 = true := by kernel_rfl
@[go_sem] theorem zeroT_46 : zeroT Tryz.prog 46 = true := by kernel_rfl
@[go_sem] theorem zeroOk_46 : zeroOk Tryz.prog 46 = true := by kernel_rfl
@[go_sem] theorem bytesOf_46 : bytesOf Tryz.prog 46 = 8 := by kernel_rfl
@[go_sem] theorem zeroD_46 : zeroD Tryz.prog 46 = [.v (.pointer none)] := by kernel_rfl
@[go_sem] theorem okT_50 : okT Tryz.prog 50 = true := by kernel_rfl
@[go_sem] theorem szOf_50 : szOf Tryz.prog 50 = 1 := by kernel_rfl
@[go_sem] theorem aggT_50 : aggT Tryz.prog 50 = false := by kernel_rfl
@[go_sem] theorem undS_50 : (Tryz.prog.underlying 50).isSome = true := by kernel_rfl
@[go_sem] theorem infS_50 : (Tryz.prog.info? 50).isSome = true := by kernel_rfl
@[go_sem] theorem ifaceT_50 : ifaceT Tryz.prog 50 = false := by kernel_rfl
@[go_sem] theorem ptrT_50 : ptrT Tryz.prog 50 = true := by kernel_rfl
@[go_sem] theorem zeroT_50 : zeroT Tryz.prog 50 = true := by kernel_rfl
@[go_sem] theorem zeroOk_50 : zeroOk Tryz.prog 50 = true := by kernel_rfl
@[go_sem] theorem bytesOf_50 : bytesOf Tryz.prog 50 = 8 := by kernel_rfl
@[go_sem] theorem zeroD_50 : zeroD Tryz.prog 50 = [.v (.pointer none)] := by kernel_rfl
@[go_sem] theorem okT_54 : okT Tryz.prog 54 = true := by kernel_rfl
@[go_sem] theorem szOf_54 : szOf Tryz.prog 54 = 1 := by kernel_rfl
@[go_sem] theorem aggT_54 : aggT Tryz.prog 54 = false := by kernel_rfl
@[go_sem] theorem undS_54 : (Tryz.prog.underlying 54).isSome = true := by kernel_rfl
@[go_sem] theorem infS_54 : (Tryz.prog.info? 54).isSome = true := by kernel_rfl
@[go_sem] theorem ifaceT_54 : ifaceT Tryz.prog 54 = false := by kernel_rfl
@[go_sem] theorem ptrT_54 : ptrT Tryz.prog 54 = false := by kernel_rfl
@[go_sem] theorem zeroT_54 : zeroT Tryz.prog 54 = true := by kernel_rfl
@[go_sem] theorem zeroOk_54 : zeroOk Tryz.prog 54 = true := by kernel_rfl
@[go_sem] theorem bytesOf_54 : bytesOf Tryz.prog 54 = 8 := by kernel_rfl
@[go_sem] theorem zeroD_54 : zeroD Tryz.prog 54 = [.v (.int .u64 0)] := by kernel_rfl
@[go_sem] theorem okT_55 : okT Tryz.prog 55 = true := by kernel_rfl
@[go_sem] theorem szOf_55 : szOf Tryz.prog 55 = 1 := by kernel_rfl
@[go_sem] theorem aggT_55 : aggT Tryz.prog 55 = false := by kernel_rfl
@[go_sem] theorem undS_55 : (Tryz.prog.underlying 55).isSome = true := by kernel_rfl
@[go_sem] theorem infS_55 : (Tryz.prog.info? 55).isSome = true := by kernel_rfl
@[go_sem] theorem ifaceT_55 : ifaceT Tryz.prog 55 = false := by kernel_rfl
@[go_sem] theorem ptrT_55 : ptrT Tryz.prog 55 = true := by kernel_rfl
@[go_sem] theorem zeroT_55 : zeroT Tryz.prog 55 = true := by kernel_rfl
@[go_sem] theorem zeroOk_55 : zeroOk Tryz.prog 55 = true := by kernel_rfl
@[go_sem] theorem bytesOf_55 : bytesOf Tryz.prog 55 = 8 := by kernel_rfl
@[go_sem] theorem zeroD_55 : zeroD Tryz.prog 55 = [.v (.pointer none)] := by kernel_rfl
@[go_sem] theorem okT_66 : okT Tryz.prog 66 = true := by kernel_rfl
@[go_sem] theorem szOf_66 : szOf Tryz.prog 66 = 1 := by kernel_rfl
@[go_sem] theorem aggT_66 : aggT Tryz.prog 66 = false := by kernel_rfl
@[go_sem] theorem undS_66 : (Tryz.prog.underlying 66).isSome = true := by kernel_rfl
@[go_sem] theorem infS_66 : (Tryz.prog.info? 66).isSome = true := by kernel_rfl
@[go_sem] theorem ifaceT_66 : ifaceT Tryz.prog 66 = false := by kernel_rfl
@[go_sem] theorem ptrT_66 : ptrT Tryz.prog 66 = false := by kernel_rfl
@[go_sem] theorem zeroT_66 : zeroT Tryz.prog 66 = true := by kernel_rfl
@[go_sem] theorem zeroOk_66 : zeroOk Tryz.prog 66 = true := by kernel_rfl
@[go_sem] theorem bytesOf_66 : bytesOf Tryz.prog 66 = 8 := by kernel_rfl
@[go_sem] theorem zeroD_66 : zeroD Tryz.prog 66 = [.v .nilFunc] := by kernel_rfl
@[go_sem] theorem okT_67 : okT Tryz.prog 67 = true := by kernel_rfl
@[go_sem] theorem szOf_67 : szOf Tryz.prog 67 = 1 := by kernel_rfl
@[go_sem] theorem aggT_67 : aggT Tryz.prog 67 = false := by kernel_rfl
@[go_sem] theorem undS_67 : (Tryz.prog.underlying 67).isSome = true := by kernel_rfl
@[go_sem] theorem infS_67 : (Tryz.prog.info? 67).isSome = true := by kernel_rfl
@[go_sem] theorem ifaceT_67 : ifaceT Tryz.prog 67 = false := by kernel_rfl
@[go_sem] theorem ptrT_67 : ptrT Tryz.prog 67 = false := by kernel_rfl
@[go_sem] theorem zeroT_67 : zeroT Tryz.prog 67 = true := by kernel_rfl
@[go_sem] theorem zeroOk_67 : zeroOk Tryz.prog 67 = true := by kernel_rfl
@[go_sem] theorem bytesOf_67 : bytesOf Tryz.prog 67 = 8 := by kernel_rfl
@[go_sem] theorem zeroD_67 : zeroD Tryz.prog 67 = [.v (.pointer none)] := by kernel_rfl
@[go_sem] theorem okT_68 : okT Tryz.prog 68 = true := by kernel_rfl
@[go_sem] theorem szOf_68 : szOf Tryz.prog 68 = 1 := by kernel_rfl
@[go_sem] theorem aggT_68 : aggT Tryz.prog 68 = false := by kernel_rfl
@[go_sem] theorem undS_68 : (Tryz.prog.underlying 68).isSome = true := by kernel_rfl
@[go_sem] theorem infS_68 : (Tryz.prog.info? 68).isSome = true := by kernel_rfl
@[go_sem] theorem ifaceT_68 : ifaceT Tryz.prog 68 = false := by kernel_rfl
@[go_sem] theorem ptrT_68 : ptrT Tryz.prog 68 = false := by kernel_rfl
@[go_sem] theorem zeroT_68 : zeroT Tryz.prog 68 = true := by kernel_rfl
@[go_sem] theorem zeroOk_68 : zeroOk Tryz.prog 68 = true := by kernel_rfl
@[go_sem] theorem bytesOf_68 : bytesOf Tryz.prog 68 = 8 := by kernel_rfl
@[go_sem] theorem zeroD_68 : zeroD Tryz.prog 68 = [.v (.int .u64 0)] := by kernel_rfl
@[go_sem] theorem okT_70 : okT Tryz.prog 70 = true := by kernel_rfl
@[go_sem] theorem szOf_70 : szOf Tryz.prog 70 = 3 := by kernel_rfl
@[go_sem] theorem aggT_70 : aggT Tryz.prog 70 = true := by kernel_rfl
@[go_sem] theorem undS_70 : (Tryz.prog.underlying 70).isSome = true := by kernel_rfl
@[go_sem] theorem infS_70 : (Tryz.prog.info? 70).isSome = true := by kernel_rfl
@[go_sem] theorem ifaceT_70 : ifaceT Tryz.prog 70 = false := by kernel_rfl
@[go_sem] theorem ptrT_70 : ptrT Tryz.prog 70 = false := by kernel_rfl
@[go_sem] theorem zeroT_70 : zeroT Tryz.prog 70 = true := by kernel_rfl
@[go_sem] theorem zeroOk_70 : zeroOk Tryz.prog 70 = true := by kernel_rfl
@[go_sem] theorem bytesOf_70 : bytesOf Tryz.prog 70 = 24 := by kernel_rfl
@[go_sem] theorem zeroD_70 : zeroD Tryz.prog 70 = [.v (.pointer none), .v (.pointer none), .v (.int .u64 0)] := by kernel_rfl
@[go_sem] theorem fld_70_0 : fld Tryz.prog 70 0 = some (0, 17) := by kernel_rfl
@[go_sem] theorem fld_70_1 : fld Tryz.prog 70 1 = some (1, 67) := by kernel_rfl
@[go_sem] theorem fld_70_2 : fld Tryz.prog 70 2 = some (2, 68) := by kernel_rfl
@[go_sem] theorem okT_73 : okT Tryz.prog 73 = true := by kernel_rfl
@[go_sem] theorem szOf_73 : szOf Tryz.prog 73 = 1 := by kernel_rfl
@[go_sem] theorem aggT_73 : aggT Tryz.prog 73 = false := by kernel_rfl
@[go_sem] theorem undS_73 : (Tryz.prog.underlying 73).isSome = true := by kernel_rfl
@[go_sem] theorem infS_73 : (Tryz.prog.info? 73).isSome = true := by kernel_rfl
@[go_sem] theorem ifaceT_73 : ifaceT Tryz.prog 73 = true := by kernel_rfl
@[go_sem] theorem ptrT_73 : ptrT Tryz.prog 73 = false := by kernel_rfl
@[go_sem] theorem zeroT_73 : zeroT Tryz.prog 73 = true := by kernel_rfl
@[go_sem] theorem zeroOk_73 : zeroOk Tryz.prog 73 = true := by kernel_rfl
@[go_sem] theorem bytesOf_73 : bytesOf Tryz.prog 73 = 16 := by kernel_rfl
@[go_sem] theorem zeroD_73 : zeroD Tryz.prog 73 = [.v .nilIface] := by kernel_rfl
@[go_sem] theorem okT_75 : okT Tryz.prog 75 = true := by kernel_rfl
@[go_sem] theorem szOf_75 : szOf Tryz.prog 75 = 1 := by kernel_rfl
@[go_sem] theorem aggT_75 : aggT Tryz.prog 75 = false := by kernel_rfl
@[go_sem] theorem undS_75 : (Tryz.prog.underlying 75).isSome = true := by kernel_rfl
@[go_sem] theorem infS_75 : (Tryz.prog.info? 75).isSome = true := by kernel_rfl
@[go_sem] theorem ifaceT_75 : ifaceT Tryz.prog 75 = false := by kernel_rfl
@[go_sem] theorem ptrT_75 : ptrT Tryz.prog 75 = false := by kernel_rfl
@[go_sem] theorem zeroT_75 : zeroT Tryz.prog 75 = true := by kernel_rfl
@[go_sem] theorem zeroOk_75 : zeroOk Tryz.prog 75 = true := by kernel_rfl
@[go_sem] theorem bytesOf_75 : bytesOf Tryz.prog 75 = 1 := by kernel_rfl
@[go_sem] theorem zeroD_75 : zeroD Tryz.prog 75 = [.v (.int .u8 0)] := by kernel_rfl
@[go_sem] theorem okT_80 : okT Tryz.prog 80 = true := by kernel_rfl
@[go_sem] theorem szOf_80 : szOf Tryz.prog 80 = 3 := by kernel_rfl
@[go_sem] theorem aggT_80 : aggT Tryz.prog 80 = true := by kernel_rfl
@[go_sem] theorem undS_80 : (Tryz.prog.underlying 80).isSome = true := by kernel_rfl
@[go_sem] theorem infS_80 : (Tryz.prog.info? 80).isSome = true := by kernel_rfl
@[go_sem] theorem ifaceT_80 : ifaceT Tryz.prog 80 = false := by kernel_rfl
@[go_sem] theorem ptrT_80 : ptrT Tryz.prog 80 = false := by kernel_rfl
@[go_sem] theorem zeroT_80 : zeroT Tryz.prog 80 = true := by kernel_rfl
@[go_sem] theorem zeroOk_80 : zeroOk Tryz.prog 80 = true := by kernel_rfl
@[go_sem] theorem bytesOf_80 : bytesOf Tryz.prog 80 = 48 := by kernel_rfl
@[go_sem] theorem zeroD_80 : zeroD Tryz.prog 80 = [.sl .full [], .v (.int .i64 0), .v .nilIface] := by kernel_rfl
@[go_sem] theorem fld_80_0 : fld Tryz.prog 80 0 = some (0, 29) := by kernel_rfl
@[go_sem] theorem fld_80_1 : fld Tryz.prog 80 1 = some (1, 3) := by kernel_rfl
@[go_sem] theorem fld_80_2 : fld Tryz.prog 80 2 = some (2, 31) := by kernel_rfl
noncomputable def pl80 : Nat → Option (Nat × Nat) := (placeT Tryz.prog 80).getD fun _ => none
@[go_sem] theorem placeT_80 : placeT Tryz.prog 80 = some pl80 := by kernel_rfl
@[go_sem] theorem pl_80_0 : pl80 0 = some (0, 1) := by kernel_rfl
@[go_sem] theorem pl_80_1 : pl80 1 = some (1, 1) := by kernel_rfl
@[go_sem] theorem pl_80_2 : pl80 2 = some (2, 1) := by kernel_rfl
@[go_sem] theorem okT_84 : okT Tryz.prog 84 = true := by kernel_rfl
@[go_sem] theorem szOf_84 : szOf Tryz.prog 84 = 1 := by kernel_rfl
@[go_sem] theorem aggT_84 : aggT Tryz.prog 84 = false := by kernel_rfl
@[go_sem] theorem undS_84 : (Tryz.prog.underlying 84).isSome = true := by kernel_rfl
@[go_sem] theorem infS_84 : (Tryz.prog.info? 84).isSome = true := by kernel_rfl
@[go_sem] theorem ifaceT_84 : ifaceT Tryz.prog 84 = false := by kernel_rfl
@[go_sem] theorem ptrT_84 : ptrT Tryz.prog 84 = false := by kernel_rfl
@[go_sem] theorem zeroT_84 : zeroT Tryz.prog 84 = true := by kernel_rfl
@[go_sem] theorem zeroOk_84 : zeroOk Tryz.prog 84 = true := by kernel_rfl
@[go_sem] theorem bytesOf_84 : bytesOf Tryz.prog 84 = 8 := by kernel_rfl
@[go_sem] theorem zeroD_84 : zeroD Tryz.prog 84 = [.v .nilFunc] := by kernel_rfl
@[go_sem] theorem okT_101 : okT Tryz.prog 101 = true := by kernel_rfl
@[go_sem] theorem szOf_101 : szOf Tryz.prog 101 = 1 := by kernel_rfl
@[go_sem] theorem aggT_101 : aggT Tryz.prog 101 = false := by kernel_rfl
@[go_sem] theorem undS_101 : (Tryz.prog.underlying 101).isSome = true := by kernel_rfl
@[go_sem] theorem infS_101 : (Tryz.prog.info? 101).isSome = true := by kernel_rfl
@[go_sem] theorem ifaceT_101 : ifaceT Tryz.prog 101 = false := by kernel_rfl
@[go_sem] theorem ptrT_101 : ptrT Tryz.prog 101 = false := by kernel_rfl
@[go_sem] theorem zeroT_101 : zeroT Tryz.prog 101 = true := by kernel_rfl
@[go_sem] theorem zeroOk_101 : zeroOk Tryz.prog 101 = true := by kernel_rfl
@[go_sem] theorem bytesOf_101 : bytesOf Tryz.prog 101 = 8 := by kernel_rfl
@[go_sem] theorem zeroD_101 : zeroD Tryz.prog 101 = [.v .nilFunc] := by kernel_rfl
@[go_sem] theorem okT_104 : okT Tryz.prog 104 = true := by kernel_rfl
@[go_sem] theorem szOf_104 : szOf Tryz.prog 104 = 1 := by kernel_rfl
@[go_sem] theorem aggT_104 : aggT Tryz.prog 104 = false := by kernel_rfl
@[go_sem] theorem undS_104 : (Tryz.prog.underlying 104).isSome = true := by kernel_rfl
@[go_sem] theorem infS_104 : (Tryz.prog.info? 104).isSome = true := by kernel_rfl
@[go_sem] theorem ifaceT_104 : ifaceT Tryz.prog 104 = false := by kernel_rfl
@[go_sem] theorem ptrT_104 : ptrT Tryz.prog 104 = false := by kernel_rfl
@[go_sem] theorem zeroT_104 : zeroT Tryz.prog 104 = true := by kernel_rfl
@[go_sem] theorem zeroOk_104 : zeroOk Tryz.prog 104 = true := by kernel_rfl
@[go_sem] theorem bytesOf_104 : bytesOf Tryz.prog 104 = 24 := by kernel_rfl
@[go_sem] theorem zeroD_104 : zeroD Tryz.prog 104 = [.sl .full []] := by kernel_rfl
@[go_sem] theorem elT_104 : elT Tryz.prog 104 = some 31 := by kernel_rfl
@[go_sem] theorem bul_104 (own : Own) (es : List D) (ty : TypeId) (cs : Array Bool) : dbuiltin Tryz.prog .len #[104] ty cs [.sl own es] = some (True, .v (.int .i64 es.length)) := bu_len own es _ ty cs elT_104
@[go_sem] theorem bwl_104 (k off n c : Nat) (ty : TypeId) (cs : Array Bool) : dbuiltin Tryz.prog .len #[104] ty cs [.win k off n c] = some (True, .v (.int .i64 n)) := bu_wlen k off n c _ ty cs elT_104
@[go_sem] theorem bwc_104 (k off n c : Nat) (ty : TypeId) (cs : Array Bool) : dbuiltin Tryz.prog .cap #[104] ty cs [.win k off n c] = some (True, .v (.int .i64 c)) := bu_wcap k off n c _ ty cs elT_104
@[go_sem] theorem okT_115 : okT Tryz.prog 115 = true := by kernel_rfl
@[go_sem] theorem szOf_115 : szOf Tryz.prog 115 = 1 := by kernel_rfl
@[go_sem] theorem aggT_115 : aggT Tryz.prog 115 = false := by kernel_rfl
@[go_sem] theorem undS_115 : (Tryz.prog.underlying 115).isSome = true := by kernel_rfl
@[go_sem] theorem infS_115 : (Tryz.prog.info? 115).isSome = true := by kernel_rfl
@[go_sem] theorem ifaceT_115 : ifaceT Tryz.prog 115 = false := by kernel_rfl
@[go_sem] theorem ptrT_115 : ptrT Tryz.prog 115 = true := by kernel_rfl
@[go_sem] theorem zeroT_115 : zeroT Tryz.prog 115 = true := by kernel_rfl
@[go_sem] theorem zeroOk_115 : zeroOk Tryz.prog 115 = true := by kernel_rfl
@[go_sem] theorem bytesOf_115 : bytesOf Tryz.prog 115 = 8 := by kernel_rfl
@[go_sem] theorem zeroD_115 : zeroD Tryz.prog 115 = [.v (.pointer none)] := by kernel_rfl
@[go_sem] theorem okT_117 : okT Tryz.prog 117 = true := by kernel_rfl
@[go_sem] theorem szOf_117 : szOf Tryz.prog 117 = 2 := by kernel_rfl
@[go_sem] theorem aggT_117 : aggT Tryz.prog 117 = true := by kernel_rfl
@[go_sem] theorem undS_117 : (Tryz.prog.underlying 117).isSome = true := by kernel_rfl
@[go_sem] theorem infS_117 : (Tryz.prog.info? 117).isSome = true := by kernel_rfl
@[go_sem] theorem ifaceT_117 : ifaceT Tryz.prog 117 = false := by kernel_rfl
@[go_sem] theorem ptrT_117 : ptrT Tryz.prog 117 = false := by kernel_rfl
@[go_sem] theorem zeroT_117 : zeroT Tryz.prog 117 = true := by kernel_rfl
@[go_sem] theorem zeroOk_117 : zeroOk Tryz.prog 117 = true := by kernel_rfl
@[go_sem] theorem bytesOf_117 : bytesOf Tryz.prog 117 = 24 := by kernel_rfl
@[go_sem] theorem zeroD_117 : zeroD Tryz.prog 117 = [.v (.int .i64 0), .v .nilIface] := by kernel_rfl
@[go_sem] theorem fld_117_0 : fld Tryz.prog 117 0 = some (0, 3) := by kernel_rfl
@[go_sem] theorem fld_117_1 : fld Tryz.prog 117 1 = some (1, 31) := by kernel_rfl
@[go_sem] theorem okT_125 : okT Tryz.prog 125 = true := by kernel_rfl
@[go_sem] theorem szOf_125 : szOf Tryz.prog 125 = 1 := by kernel_rfl
@[go_sem] theorem aggT_125 : aggT Tryz.prog 125 = false := by kernel_rfl
@[go_sem] theorem undS_125 : (Tryz.prog.underlying 125).isSome = true := by kernel_rfl
@[go_sem] theorem infS_125 : (Tryz.prog.info? 125).isSome = true := by kernel_rfl
@[go_sem] theorem ifaceT_125 : ifaceT Tryz.prog 125 = false := by kernel_rfl
@[go_sem] theorem ptrT_125 : ptrT Tryz.prog 125 = false := by kernel_rfl
@[go_sem] theorem zeroT_125 : zeroT Tryz.prog 125 = true := by kernel_rfl
@[go_sem] theorem zeroOk_125 : zeroOk Tryz.prog 125 = true := by kernel_rfl
@[go_sem] theorem bytesOf_125 : bytesOf Tryz.prog 125 = 8 := by kernel_rfl
@[go_sem] theorem zeroD_125 : zeroD Tryz.prog 125 = [.v .nilFunc] := by kernel_rfl
@[go_sem] theorem okT_130 : okT Tryz.prog 130 = true := by kernel_rfl
@[go_sem] theorem szOf_130 : szOf Tryz.prog 130 = 1 := by kernel_rfl
@[go_sem] theorem aggT_130 : aggT Tryz.prog 130 = false := by kernel_rfl
@[go_sem] theorem undS_130 : (Tryz.prog.underlying 130).isSome = true := by kernel_rfl
@[go_sem] theorem infS_130 : (Tryz.prog.info? 130).isSome = true := by kernel_rfl
@[go_sem] theorem ifaceT_130 : ifaceT Tryz.prog 130 = false := by kernel_rfl
@[go_sem] theorem ptrT_130 : ptrT Tryz.prog 130 = false := by kernel_rfl
@[go_sem] theorem zeroT_130 : zeroT Tryz.prog 130 = true := by kernel_rfl
@[go_sem] theorem zeroOk_130 : zeroOk Tryz.prog 130 = true := by kernel_rfl
@[go_sem] theorem bytesOf_130 : bytesOf Tryz.prog 130 = 8 := by kernel_rfl
@[go_sem] theorem zeroD_130 : zeroD Tryz.prog 130 = [.v .nilFunc] := by kernel_rfl
theorem mixed : Tryz.prog.follows .mixedOrders = true := by kernel_rfl
end Go.Proofs.YtbcabejdchkpmaaGreatDoor

namespace Go.Proofs.YtbcabejdchkpmaaGreatDoor
open Go.RowKit

def strD (s : Str) : D := .v (sv s)
def u64D (n : Nat) : D := .v (.int .u64 (n : Int))
mutual
def encV : DVal → D
  | .mk k n s ns is ps => .agg [.v (.int .i64 k), .v (.int .i64 n), strD s, .sl .no (ns.map strD), .sl .no (is.map u64D), .sl .no (encVs ps)]
def encVs : List DVal → List D
  | [] => []
  | p :: ps => encV p :: encVs ps
end
theorem encVs_map : ∀ l : List DVal, encVs l = l.map encV
  | [] => rfl
  | p :: l => by simp [encVs, encVs_map l]
theorem encV_eq (v : DVal) : encV v = .agg [.v (.int .i64 v.kind), .v (.int .i64 v.n), strD v.s, .sl .no (v.names.map strD), .sl .no (v.ids.map u64D), .sl .no (v.parts.map encV)] := by
  obtain ⟨k, n, s, ns, is, ps⟩ := v
  simp [encV, encVs_map, DVal.kind, DVal.n, DVal.s, DVal.names, DVal.ids, DVal.parts]
theorem closed_strs (l : List Str) : allL (fun _ => False) (l.map strD) := allL_iff.2 fun d hd => by
  obtain ⟨s, _, rfl⟩ := List.mem_map.1 hd
  trivial
theorem closed_u64s (l : List Nat) : allL (fun _ => False) (l.map u64D) := allL_iff.2 fun d hd => by
  obtain ⟨s, _, rfl⟩ := List.mem_map.1 hd
  trivial
mutual
theorem closed_encV : ∀ v : DVal, (encV v).closed
  | .mk k n s ns is ps => by simp only [encV, D.closed, D.all, allL, Own.all, strD]; exact ⟨trivial, trivial, trivial, ⟨trivial, closed_strs ns⟩, ⟨trivial, closed_u64s is⟩, ⟨trivial, closed_encVs ps⟩, trivial⟩
theorem closed_encVs : ∀ l : List DVal, allL (fun _ => False) (encVs l)
  | [] => trivial
  | p :: ps => by simp only [encVs, allL]; exact ⟨closed_encV p, closed_encVs ps⟩
end
theorem frz_strs (l : List Str) : frzL (l.map strD) = l.map strD := by simp [frzL_map, strD, D.frz, Function.comp_def]
theorem frz_u64s (l : List Nat) : frzL (l.map u64D) = l.map u64D := by simp [frzL_map, u64D, D.frz, Function.comp_def]
mutual
theorem frz_encV : ∀ v : DVal, (encV v).frz = encV v
  | .mk k n s ns is ps => by simp only [encV, D.frz, frzL, frz_strs, frz_u64s, frz_encVs ps, strD]
theorem frz_encVs : ∀ l : List DVal, frzL (encVs l) = encVs l
  | [] => rfl
  | p :: ps => by simp only [encVs, frzL, frz_encV p, frz_encVs ps]
end
theorem frz_mapV (l : List DVal) : frzL (l.map encV) = l.map encV := by rw [← encVs_map, frz_encVs]
/-! What fits the machine's bounds. -/
mutual
def okV : DVal → Prop
  | .mk k n s ns is ps => I64 k ∧ I64 n ∧ s.length ≤ maxLen ∧ (∀ s ∈ ns, s.length ≤ maxLen) ∧ ns.length ≤ 140737488351232 ∧ (∀ i ∈ is, U64 (i : Int)) ∧ is.length ≤ 140737488351232 ∧ ps.length ≤ 140737488351232 ∧ okVs ps
def okVs : List DVal → Prop
  | [] => True
  | p :: ps => okV p ∧ okVs ps
end
theorem okVs_iff : ∀ {l : List DVal}, okVs l ↔ ∀ p ∈ l, okV p
  | [] => by simp [okVs]
  | p :: l => by simp [okVs, okVs_iff (l := l)]
theorem okV_eq (v : DVal) : okV v ↔ I64 v.kind ∧ I64 v.n ∧ v.s.length ≤ maxLen ∧ (∀ x ∈ v.names, x.length ≤ maxLen) ∧ v.names.length ≤ 140737488351232 ∧ (∀ i ∈ v.ids, U64 (i : Int)) ∧ v.ids.length ≤ 140737488351232 ∧ v.parts.length ≤ 140737488351232 ∧ ∀ p ∈ v.parts, okV p := by
  obtain ⟨k, n, s, ns, is, ps⟩ := v
  simp only [okV, okVs_iff, DVal.kind, DVal.n, DVal.s, DVal.names, DVal.ids, DVal.parts]
theorem IsVal.ok {w : World} {F : Nat → Prop} {v : DVal} {cs : List Value} (h : IsVal w F v cs) : okV v := by
  induction h with
  | mk h1 h2 h3 h4 h5 h6 h7 h8 h9 h10 h11 hA hC hP h12 h13 ih =>
    simp only [okV, okVs_iff]
    refine ⟨h1, h2, h3, h5, h7, h9, h11, h13, fun p hp => ?_⟩
    obtain ⟨i, hi, rfl⟩ := List.getElem_of_mem hp
    exact ih i _ (List.getElem?_eq_getElem hi)

section
variable {P : Program} {w : World} {η : Names} {X : Nat → Nat → Prop}
theorem rep_scalars {F : Nat → Prop} {α : Type} (g : α → Value) (h1 : ∀ a, (g a).oneCell' = true) (hX : ∀ b i, F b → X b i) {A : Option Addr} {c : Nat} {l : List α} (h : RF w F 1 A l.length (l.map g)) (hc : l.length ≤ c) (hn : l.length ≤ 140737488351232) :
    Rep P w η X (.sl .no (l.map fun a => .v (g a))) (.slice A l.length c) := by
  simp only [Rep]
  refine ⟨A, c, by rw [List.length_map], by rw [List.length_map]; exact hc, by rw [List.length_map]; omega, trivial, fun h0 => ?_⟩
  rw [List.length_map] at h0
  obtain ⟨b, o, e, hb, hr⟩ := h.2 h0
  refine ⟨b, o, 1, e, by omega, RepE.mk fun i d hd => ?_⟩
  rw [List.getElem?_map] at hd
  cases hi : l[i]? with
  | none => rw [hi] at hd; cases hd
  | some a =>
    rw [hi] at hd
    injection hd with hd
    subst hd
    have hcell := hr i (g a) (by rw [List.getElem?_map, hi]; rfl)
    rw [Nat.mul_one]
    exact ⟨by simp only [RepA], fun _ => ⟨rfl, hX _ _ hb, g a, hcell, h1 a, by simp only [Rep]⟩⟩
theorem rep_structs {F : Nat → Prop} {α : Type} (e : α → D) (z : Nat) (hz : 0 < z) (hX : ∀ b i, F b → X b i) {A : Option Addr} {c b o : Nat} {l : List α} {C : Nat → List Value} (hA : 0 < l.length → A = some ⟨b, o, none⟩ ∧ F b)
    (hC : ∀ i a, l[i]? = some a → (C i).length = z ∧ w.rangeAt b (o + i * z) (C i)) (hR : ∀ i a, l[i]? = some a → Rep P w η X (e a) (.agg (C i).toArray)) (hagg : ∀ a, (e a).isAgg = true) (hc : l.length ≤ c) (hn : l.length ≤ 140737488351232) :
    Rep P w η X (.sl .no (l.map e)) (.slice A l.length c) := by
  simp only [Rep]
  refine ⟨A, c, by rw [List.length_map], by rw [List.length_map]; exact hc, by rw [List.length_map]; omega, trivial, fun h0 => ?_⟩
  rw [List.length_map] at h0
  refine ⟨b, o, z, (hA h0).1, hz, RepE.mk fun i d hd => ?_⟩
  rw [List.getElem?_map] at hd
  cases hi : l[i]? with
  | none => rw [hi] at hd; cases hd
  | some a =>
    rw [hi] at hd
    injection hd with hd
    subst hd
    have h1 := hR i a hi
    obtain ⟨h2, h3⟩ := hC i a hi
    cases he : e a with
    | agg ds =>
      rw [he] at h1
      simp only [Rep] at h1
      obtain ⟨vs, h4, h5, h6⟩ := h1
      have : C i = vs := by
        injection h4 with h4
        have := congrArg Array.toList h4
        simpa using this
      rw [this] at h2 h3
      have hlen : ds.length = z := by rw [← h5.length, h2]
      exact ⟨by simp only [RepA]; exact ⟨hlen, RepC.mk h5 h3 (fun j _ => hX _ _ (hA h0).2) h6⟩, fun h => by simp [D.isAgg] at h⟩
    | _ => have := hagg a; rw [he] at this; simp [D.isAgg] at this
theorem encV_agg (v : DVal) : (encV v).isAgg = true := by rw [encV_eq]; rfl
theorem rep_val {F : Nat → Prop} (hX : ∀ b i, F b → X b i) {v : DVal} {cs : List Value} (h : IsVal w F v cs) : Rep P w η X (encV v) (.agg cs.toArray) := by
  induction h with
  | mk h1 h2 h3 h4 h5 h6 h7 h8 h9 h10 h11 hA hC hP h12 h13 ih =>
    have r1 := rep_scalars (P := P) (η := η) sv (fun _ => rfl) hX h4 h6 h7
    have r2 := rep_scalars (P := P) (η := η) uv (fun _ => rfl) hX h8 h10 h11
    have r3 := rep_structs (P := P) (η := η) encV 6 (by omega) hX hA hC ih encV_agg h12 h13
    simp only [encV, encVs_map, strD, Rep, RepL]
    refine ⟨_, rfl, ⟨_, _, rfl, rfl, _, _, rfl, rfl, _, _, rfl, rfl, _, _, rfl, r1, _, _, rfl, r2, _, _, rfl, r3, rfl⟩, by simp [Value.oneCell']⟩
theorem scalars_of_rep {α : Type} (g : α → Value) {own : Own} {l : List α} {y : Value} (h : Rep P w η X (.sl own (l.map fun a => .v (g a))) y) : ∃ A c, y = .slice A l.length c ∧ l.length ≤ c ∧ RF w (· < w.heap.size) 1 A l.length (l.map g) := by
  simp only [Rep] at h
  obtain ⟨A, c, rfl, h1, _, _, h2⟩ := h
  rw [List.length_map] at *
  refine ⟨A, c, rfl, h1, by simp, fun h0 => ?_⟩
  obtain ⟨b, o, z, rfl, hz, hr⟩ := h2 h0
  have hel : ∀ j a, l[j]? = some a → w.cell? ⟨b, o + j, none⟩ = some (g a) := fun j a hj => by
    have := RepE.get j hr (d := .v (g a)) (by rw [List.getElem?_map, hj]; rfl)
    obtain ⟨e1, _, x, e2, _, e3⟩ := this.2 rfl
    simp only [Rep] at e3
    rw [e1, Nat.mul_one] at e2
    rw [e2, e3]
  refine ⟨b, o, rfl, ?_, fun j u hu => ?_⟩
  · have h3 := hel 0 _ (List.getElem?_eq_getElem h0)
    exact World.block_lt_of_cell? w _ h3
  · rw [List.getElem?_map] at hu
    cases hj : l[j]? with
    | none => rw [hj] at hu; cases hu
    | some a =>
      rw [hj] at hu
      injection hu with hu
      rw [← hu]
      exact hel j a hj
theorem structs_of_rep {α : Type} (e : α → D) (hagg : ∀ a, (e a).isAgg = true) {own : Own} {l : List α} {y : Value} {z : Nat} (hw : ∀ a, (e a).width = z) (hz : 0 < z) (h : Rep P w η X (.sl own (l.map e)) y) :
    ∃ A c b o, ∃ C : Nat → List Value, y = .slice A l.length c ∧ l.length ≤ c ∧ (0 < l.length → A = some ⟨b, o, none⟩ ∧ b < w.heap.size) ∧ (∀ i a, l[i]? = some a → (C i).length = z ∧ w.rangeAt b (o + i * z) (C i)) ∧ ∀ i a, l[i]? = some a → Rep P w η X (e a) (.agg (C i).toArray) := by
  simp only [Rep] at h
  obtain ⟨A, c, rfl, h1, _, _, h2⟩ := h
  rw [List.length_map] at *
  rcases Nat.eq_zero_or_pos l.length with h0 | h0
  · have : l = [] := List.eq_nil_of_length_eq_zero h0
    subst this
    exact ⟨A, c, 0, 0, fun _ => [], rfl, h1, fun h => absurd h (by simp), fun i a ha => by simp at ha, fun i a ha => by simp at ha⟩
  obtain ⟨b, o, z', rfl, hz', hr⟩ := h2 h0
  have key : ∀ i, i < l.length → ∃ vs : List Value, vs.length = z ∧ w.rangeAt b (o + i * z) vs ∧ ∀ a, l[i]? = some a → Rep P w η X (e a) (.agg vs.toArray) := fun i hi => by
    have hel := (RepE.get i hr (d := e l[i]) (by rw [List.getElem?_map, List.getElem?_eq_getElem hi]; rfl)).cells
    have hzz : z' = z := by rw [← hel.1, hw]
    subst hzz
    obtain ⟨vs, k1, k2, k3, k4⟩ := hel.2.range
    refine ⟨vs, by rw [k1]; exact hel.1, k2, fun a ha => ?_⟩
    rw [List.getElem?_eq_getElem hi] at ha
    injection ha with ha
    subst ha
    have hg := hagg l[i]
    revert k3 hg
    cases e l[i] with
    | agg ds => intro k3 _; simp only [Rep]; exact ⟨vs, rfl, k3, k4⟩
    | _ => intro _ hg; simp [D.isAgg] at hg
  refine ⟨_, c, b, o, fun i => if hi : i < l.length then Classical.choose (key i hi) else [], rfl, h1, fun _ => ⟨rfl, ?_⟩, fun i a ha => ?_, fun i a ha => ?_⟩
  · have hk := Classical.choose_spec (key 0 h0)
    have := hk.2.1 0 (Classical.choose (key 0 h0))[0] (List.getElem?_eq_getElem (by rw [hk.1]; exact hz))
    exact World.block_lt_of_cell? w _ this
  · have hi : i < l.length := (List.getElem?_eq_some_iff.1 ha).1
    dsimp only
    rw [dif_pos hi]
    have hk := Classical.choose_spec (key i hi)
    exact ⟨hk.1, hk.2.1⟩
  · have hi : i < l.length := (List.getElem?_eq_some_iff.1 ha).1
    dsimp only
    rw [dif_pos hi]
    exact (Classical.choose_spec (key i hi)).2.2 a ha
theorem width_encV (v : DVal) : (encV v).width = 6 := by rw [encV_eq]; rfl
theorem val_of_rep : ∀ (n : Nat) (s : DVal), s.depth ≤ n → okV s → ∀ {y : Value}, Rep P w η X (encV s) y → ∃ cs : List Value, y = .agg cs.toArray ∧ IsVal w (· < w.heap.size) s cs
  | 0, s, h, _, _, _ => by have := s.depth_pos; omega
  | n + 1, s, hd, hok, y, h => by
    have hdp : ∀ p ∈ s.parts, p.depth < s.depth := fun p hp => DVal.depth_part hp
    obtain ⟨o1, o2, o3, o4, o5, o6, o7, o8, o9⟩ := (okV_eq s).1 hok
    rw [encV_eq] at h
    simp only [strD, Rep, RepL] at h
    obtain ⟨vs, rfl, ⟨_, _, rfl, rfl, _, _, rfl, rfl, _, _, rfl, rfl, _, _, rfl, h2, _, _, rfl, h4, _, _, rfl, h3, rfl⟩, _⟩ := h
    have h2' := scalars_of_rep (P := P) (w := w) (η := η) (X := X) sv (own := .no) (l := s.names) (by simp only [Rep]; exact h2)
    have h4' := scalars_of_rep (P := P) (w := w) (η := η) (X := X) uv (own := .no) (l := s.ids) (by simp only [Rep]; exact h4)
    have h3' := structs_of_rep (P := P) (w := w) (η := η) (X := X) encV encV_agg (own := .no) (l := s.parts) width_encV (by omega) (by simp only [Rep]; exact h3)
    obtain ⟨A1, c1, rfl, g1, g2⟩ := h2'
    obtain ⟨A3, c3, rfl, g3, g4⟩ := h4'
    obtain ⟨A2, c2, b, o, C, rfl, k1, k2, k3, k4⟩ := h3'
    refine ⟨_, rfl, ?_⟩
    obtain ⟨k, n', s', ns, is, ps⟩ := s
    refine .mk o1 o2 o3 g2 o4 g1 o5 g4 o6 g3 o7 k2 k3 (fun i p hp => ?_) k1 o8
    obtain ⟨cs, e1, e2⟩ := val_of_rep n p (by have := hdp p (List.mem_of_getElem? hp); omega) (o9 p (List.mem_of_getElem? hp)) (k4 i p hp)
    have : C i = cs := by
      injection e1 with e1
      have := congrArg Array.toList e1
      simpa using this
    rw [this]
    exact e2
end
/-! ### Over memory, and over trees -/
section
variable {P : Program} {base : Nat} {S : St} {η : Names} {w : World}
theorem goes_below (h : Mem P base S η w) {w' : World} (hb : Below w.heap.size w w') : Goes P base S η w S η w' := by
  have K : Keep (fun _ => True) w η (Fix P S η) w' η (Fix P S η) := ⟨hb.size, fun b i hlt hx => ⟨hx, hb.cell (p := ⟨b, i, none⟩) hlt⟩, fun _ _ _ hx => hx, fun b cur _ hx => ⟨cur, by rw [hb.block b ((Array.getElem?_eq_some_iff.1 hx).1)]; exact hx, rfl⟩⟩
  refine ⟨⟨Nat.le_trans h.base_ hb.size, h.dead, h.fresh, h.live, h.inj, fun k b hk => ⟨(h.in_ k b hk).1, Nat.lt_of_lt_of_le (h.in_ k b hk).2 hb.size⟩, fun k t cs b h1 h2 => ?_, fun k e n b h1 h2 => ?_, h.glob.below (hb.mono h.base_)⟩, K, hb.mono h.base_⟩
  · obtain ⟨vs, k1, k2, k3⟩ := h.box k t cs b h1 h2
    exact ⟨vs, by rw [hb.block b (h.in_ k b h2).2]; exact k1, RepL.keep K (allL_true _) k2, k3⟩
  · obtain ⟨cur, k1, k2⟩ := h.row k e n b h1 h2
    exact ⟨cur, by rw [hb.block b (h.in_ k b h2).2]; exact k1, k2⟩
theorem dpure_of_gives {g : FuncId} {args : List D} {v : Value} (hent : ∀ vs w, (callFunc g vs).run P w = .ok (.enter g vs) w) (h : ∀ (w : World) (η : Names) (X : Nat → Nat → Prop) (vs : List Value), RepL P w η X args vs → Calls P g vs.toArray w (Gives v w)) : DPure P g args (.v v) :=
  fun _ _ η w vs hM hr => .inl ⟨hent _ _, (h w η _ vs hr).mono fun _ _ ⟨he, hb⟩ => ⟨.v v, _, η, v, ⟨rfl, rfl⟩, he, by simp only [Rep], goes_below hM hb⟩⟩
end
theorem empty_toList : (⟨#[]⟩ : ByteArray).toList = [] := by rw [Go.Lib.toList_data]
theorem cells_encV (v : DVal) : (encV v).cells.length = 6 := width_encV v
theorem agg_encV (v : DVal) : D.agg (encV v).cells = encV v := by rw [encV_eq]; rfl
theorem take_encV (v : DVal) : (encV v).cells.take 6 = (encV v).cells := List.take_of_length_le (by rw [cells_encV]; omega)
theorem okCell_encV (v : DVal) : (encV v).okCell = true := by rw [encV_eq]; rfl
theorem cut_guard {P : Program} {x : D} {want : Bool} {f : Fm} {S : St} {ty : TypeId} {op : Op} {ops : Array Oper} {R J : Fm → St → Prop} {r : List Oper} {dst : Option Tmp} (J' : Fm → St → Prop) (hJ : J = J') (h : ∀ f S, J f S → R f S)
    (k : dguard x want (dopF P f S ty op (dnext P ops J r f dst)) (dskip P ops J r f dst S)) : dguard x want (dopF P f S ty op (dnext P ops R r f dst)) (dskip P ops R r f dst S) := by
  cases x with
  | v u => cases u with
    | bool b => exact ⟨fun e => dop_mono (fun d S' hd => dops_mono h r hd) (k.1 e), fun e => dops_mono h r (k.2 e)⟩
    | _ => exact k
  | tup l => cases l with
    | nil => exact dops_mono h r k
    | cons d l => exact k
  | _ => exact k
attribute [go_sem] empty_toList strB_size cells_encV agg_encV take_encV okCell_encV strD u64D
end Go.Proofs.YtbcabejdchkpmaaGreatDoor

namespace Go.Proofs.YtbcabejdchkpmaaGreatDoor
open Go.RowKit
def bad1 (kd num : Int) (xl nn ni : Nat) : Prop := kd < 1 ∨ 6 < kd ∨ (kd ≠ 1 ∧ kd ≠ 2 ∧ num ≠ 0) ∨ (kd ≠ 3 ∧ kd ≠ 4 ∧ 0 < xl) ∨ (kd ≠ 5 ∧ 0 < nn) ∨ (kd ≠ 6 ∧ 0 < ni)
instance (kd num : Int) (xl nn ni : Nat) : Decidable (bad1 kd num xl nn ni) := by unfold bad1; exact inferInstance
def bad2 (kd num : Int) (xl nn ni np : Nat) (bn : Bool) : Prop := (kd = 1 ∧ num ≠ 0 ∧ num ≠ 1) ∨ (kd = 3 ∧ 64 < xl) ∨ (kd = 4 ∧ bn = false) ∨ 8 < nn ∨ 12 < ni ∨ np ≠ nn + ni
instance (kd num : Int) (xl nn ni np : Nat) (bn : Bool) : Decidable (bad2 kd num xl nn ni np bn) := by unfold bad2; exact inferInstance
def hereV (v : DVal) : Bool := (!decide (bad1 v.kind v.n v.s.length v.names.length v.ids.length) && !decide (bad2 v.kind v.n v.s.length v.names.length v.ids.length v.parts.length (nameB v.s))) && ((List.range v.names.length).all (riseOk v.names) && (List.range v.ids.length).all (idOk v.ids))
def soundV : Nat → DVal → Bool
  | 0, _ => true
  | k + 1, v => hereV v && v.parts.all (soundV k)
def soundSt (v : DVal) (S : St) : St := S.add (.box 26 [.v (.int .i64 v.kind), .v (.int .i64 v.n), strD v.s, .sl .no (v.names.map strD), .sl .no (v.ids.map u64D), .sl .no (v.parts.map encV)])
theorem refName_d (s : Str) (hs : s.length ≤ maxLen) : DPure Tryz.prog 34 [.v (sv s)] (.v (.bool (nameB s))) :=
  dpure_of_gives (fun _ _ => by kernel_rfl) fun w η X vs hr => by
    simp only [RepL, Rep] at hr
    obtain ⟨x, xs, rfl, rfl, rfl⟩ := hr
    exact (refName_calls s w hs).mono fun e w' ⟨he, hw⟩ => ⟨he, hw ▸ Below.refl _ _⟩
theorem all_not {l : Nat} {p : Nat → Bool} {i : Nat} (h : i < l) (hp : p i = false) : (List.range l).all p = false := List.all_eq_false.2 ⟨i, List.mem_range.2 h, by simp [hp]⟩
theorem all_of {l : Nat} {p : Nat → Bool} (h : ∀ j, j < l → p j = true) : (List.range l).all p = true := List.all_eq_true.2 fun j hj => h j (List.mem_range.1 hj)
theorem getD_at {α : Type} {l : List α} {i : Nat} {d : α} (h : i < l.length) : l.getD i d = l[i] := by simp [List.getD, h]
theorem leq_not (x y : Str) : (Op.bytesLess x y || x == y) = !sLt y x := by
  have h1 := sLt_iff x y
  have h2 := sLt_iff y x
  rw [show Op.bytesLess x y = sLt x y from rfl, h1, h2, Bool.eq_iff_iff]
  simp only [Bool.or_eq_true, decide_eq_true_eq, beq_iff_eq, Bool.not_eq_true', decide_eq_false_iff_not, List.not_lt]
  constructor
  · rintro (h | h)
    · exact List.le_of_lt h
    · rw [h]; exact List.le_refl y
  · intro h
    by_cases e : x = y
    · exact .inr e
    · exact .inl (Classical.byContradiction fun hn => e (List.le_antisymm h (List.not_lt.1 hn)))
structure LNames (v : DVal) (S : St) (f : Fm) (T : St) (i : Nat) : Prop where
  st : T = soundSt v S
  s1 : f 1 = .loc S.next 0
  s4 : f 4 = .v (.int .i64 i)
  le : i ≤ v.names.length
  ok : ∀ j, j < i → riseOk v.names j = true
def LNamesE (v : DVal) (S : St) (f : Fm) (T : St) : Prop := ∃ i, LNames v S f T i
structure JNames (v : DVal) (S : St) (f : Fm) (T : St) : Prop where
  st : T = soundSt v S
  s1 : f 1 = .loc S.next 0
  ok : (List.range v.names.length).all (riseOk v.names) = true
structure LIds (v : DVal) (S : St) (f : Fm) (T : St) (i : Nat) : Prop where
  st : T = soundSt v S
  s1 : f 1 = .loc S.next 0
  s5 : f 5 = .v (.int .i64 i)
  le : i ≤ v.ids.length
  ok : ∀ j, j < i → idOk v.ids j = true
def LIdsE (v : DVal) (S : St) (f : Fm) (T : St) : Prop := ∃ i, LIds v S f T i
structure LIn (v : DVal) (S : St) (i : Nat) (f : Fm) (T : St) (j : Nat) : Prop where
  st : T = soundSt v S
  s1 : f 1 = .loc S.next 0
  s5 : f 5 = .v (.int .i64 i)
  s6 : f 6 = .v (.int .i64 j)
  le : j ≤ i
  no : ∀ r, r < j → v.ids.getD r 0 ≠ v.ids.getD i 0
def LInE (v : DVal) (S : St) (i : Nat) (f : Fm) (T : St) : Prop := ∃ j, LIn v S i f T j
structure JIds (v : DVal) (S : St) (f : Fm) (T : St) : Prop where
  st : T = soundSt v S
  s1 : f 1 = .loc S.next 0
  ok : (List.range v.ids.length).all (idOk v.ids) = true
structure LParts (v : DVal) (k : Nat) (S : St) (f : Fm) (T : St) (i : Nat) : Prop where
  st : T = soundSt v S
  s1 : f 1 = .loc S.next 0
  s7 : f 7 = .v (.int .i64 i)
  le : i ≤ v.parts.length
  ok : ∀ j (h : j < v.parts.length), j < i → soundV k v.parts[j] = true
def LPartsE (v : DVal) (k : Nat) (S : St) (f : Fm) (T : St) : Prop := ∃ i, LParts v k S f T i
theorem mem_take_iff (l : List Nat) (i : Nat) (x : Nat) (hi : i ≤ l.length) : x ∈ l.take i ↔ ∃ r, r < i ∧ l.getD r 0 = x := by
  rw [List.mem_take_iff_getElem]
  constructor
  · rintro ⟨r, hr, e⟩
    exact ⟨r, by omega, by rw [getD_at (by omega)]; exact e⟩
  · rintro ⟨r, hr, e⟩
    exact ⟨r, by omega, by rw [getD_at (by omega)] at e; exact e⟩
structure Cut2 (v : DVal) (S : St) (f : Fm) (T : St) : Prop where
  st : T = soundSt v S
  s1 : f 1 = .loc S.next 0
  s118 : f 118 = .v (.bool (decide (bad2 v.kind v.n v.s.length v.names.length v.ids.length v.parts.length (nameB v.s))))
structure Cut1 (v : DVal) (S : St) (f : Fm) (T : St) : Prop where
  st : T = soundSt v S
  s1 : f 1 = .loc S.next 0
  s3 : f 3 = .v (.int .i64 v.kind)
  s61 : f 61 = .v (.bool (decide (bad1 v.kind v.n v.s.length v.names.length v.ids.length)))
set_option maxRecDepth 200000 in
set_option maxHeartbeats 8000000 in
theorem refSoundV_d (k : Nat) : ∀ (v : DVal), v.depth ≤ k → okV v → DPure Tryz.prog 19 [encV v] (.v (.bool (soundV k v))) := by
  induction k with
  | zero => intro v h; have := v.depth_pos; omega
  | succ k ih =>
    intro v hk hok
    refine dpure_of_dwp mixed Tryz.func19 rfl (fun _ _ => by kernel_rfl) (rs := [.tmp 2]) rfl (by kernel_rfl) trivial (fun S hS => ?_)
    simp only [go_sem, add_ob, set_ob, encV_eq v]
    refine cut_guard (Cut1 v S) rfl ?_ ?_
    · intro f T h
      obtain rfl := h.st
      cases hb1 : decide (bad1 v.kind v.n v.s.length v.names.length v.ids.length) with
      | true =>
        have hr : soundV (k + 1) v = false := by simp only [soundV, hereV, hb1]; rfl
        simp only [go_sem, add_ob, set_ob, h.s61, hb1]
        exact ⟨by rw [hr]; rfl, (St.Sub.refl S).add hS _⟩
      | false =>
        have hgood : ¬ bad1 v.kind v.n v.s.length v.names.length v.ids.length := of_decide_eq_false hb1
        simp only [go_sem, add_ob, set_ob, h.s61, h.s1, h.s3, hb1, soundSt]
        obtain ⟨o1, o2, o3, o4, o5, o6, o7, o8, o9⟩ := (okV_eq v).1 hok
        refine cut_guard (Cut2 v S) rfl ?_ ?_
        · intro f2 T2 h2
          obtain rfl := h2.st
          cases hb2 : decide (bad2 v.kind v.n v.s.length v.names.length v.ids.length v.parts.length (nameB v.s)) with
          | true =>
            have hr : soundV (k + 1) v = false := by simp only [soundV, hereV, hb1, hb2]; rfl
            simp only [go_sem, add_ob, set_ob, h2.s118, hb2]
            exact ⟨by rw [hr]; rfl, (St.Sub.refl S).add hS _⟩
          | false =>
            have hok2 : ¬ bad2 v.kind v.n v.s.length v.names.length v.ids.length v.parts.length (nameB v.s) := of_decide_eq_false hb2
            simp only [go_sem, add_ob, set_ob, h2.s118, h2.s1, hb2, soundSt]
            refine loop_cut (JNames v S) ?_ ?_
            · refine dloop_mk (LNamesE v S) (fun f _ => v.names.length - slotN (f 4)) ⟨0, ⟨rfl, by simp only [go_sem, add_ob, set_ob, h2.s1], by simp only [go_sem, add_ob, set_ob]; rfl, by omega, fun j hj => by omega⟩⟩ ?_
              rintro g T ⟨i, q⟩
              obtain rfl := q.st
              by_cases hlt : i < v.names.length
              · have b1 : decide ((i : Int) < (v.names.length : Int)) = true := by simp; omega
                have hx := getD_map strD v.names i hlt
                have c1 : (0 : Int) ≤ (i : Int) := by omega
                have c2 : (i : Int) < (v.names.length : Int) := by omega
                simp only [go_sem, add_ob, set_ob, q.s1, q.s4, b1, soundSt]
                refine ddraw_mk 25 (by kernel_rfl) ?_
                simp only [go_sem, add_ob, set_ob, q.s1, q.s4, hx, c1, c2]
                refine dqgo_mk (refName_d v.names[i] (o4 _ (List.getElem_mem hlt))) ?_
                have w1 : IntKind.i64.wrap ((i : Int) + 1) = (i : Int) + 1 := IntWalk.i64_in _ ⟨by omega, by omega⟩
                have bad : riseOk v.names i = false → soundV (k + 1) v = false := fun hh => by
                  simp only [soundV, hereV, all_not (p := riseOk v.names) hlt hh, Bool.false_and, Bool.and_false]
                have hri : riseOk v.names i = (nameB v.names[i] && (decide (i = 0) || sLt (v.names.getD (i - 1) []) v.names[i])) := by rw [riseOk, getD_at hlt]
                have next : riseOk v.names i = true → ∀ j, j < i + 1 → riseOk v.names j = true := fun hh j hj => by
                  by_cases e : j = i
                  · rw [e]; exact hh
                  · exact q.ok j (by omega)
                cases hn : nameB v.names[i] with
                | false =>
                  simp only [go_sem, add_ob, set_ob, q.s1, q.s4, hx, c1, c2, hn]
                  exact ⟨by rw [bad (by rw [hri, hn]; rfl)]; rfl, (St.Sub.refl S).add hS _⟩
                | true =>
                  by_cases hi0 : i = 0
                  · have b3 : decide ((0 : Int) < (i : Int)) = false := by simp [hi0]
                    simp only [go_sem, add_ob, set_ob, q.s1, q.s4, hx, c1, c2, hn, b3, w1]
                    exact round_end ⟨i + 1, ⟨rfl, by simp only [go_sem, add_ob, set_ob, q.s1], by simp only [go_sem, add_ob, set_ob]; rfl, by omega, next (by rw [hri, hn, decide_eq_true hi0]; rfl)⟩⟩ (by simp only [go_sem, add_ob, set_ob]; omega)
                  · have b3 : decide ((0 : Int) < (i : Int)) = true := by simp; omega
                    have w2 : IntKind.i64.wrap ((i : Int) - 1) = (i : Int) - 1 := IntWalk.i64_in _ ⟨by omega, by omega⟩
                    have n2 : ((i : Int) - 1).toNat = i - 1 := by omega
                    have hx2 := getD_map strD v.names (i - 1) (by omega)
                    have hx3 : v.names.getD (i - 1) [] = v.names[i - 1] := getD_at (by omega)
                    have c3 : (0 : Int) ≤ (i : Int) - 1 := by omega
                    have c4 : (i : Int) - 1 < (v.names.length : Int) := by omega
                    simp only [go_sem, add_ob, set_ob, q.s1, q.s4, hx, c1, c2, hn, b3, w1, w2, n2, hx2, c3, c4, leq_not]
                    cases hs : sLt v.names[i - 1] v.names[i] with
                    | false =>
                      simp only [go_sem, add_ob, set_ob, hs]
                      exact ⟨by rw [bad (by rw [hri, hn, hx3, hs, decide_eq_false hi0]; rfl)]; rfl, (St.Sub.refl S).add hS _⟩
                    | true =>
                      simp only [go_sem, add_ob, set_ob, hs, q.s1, q.s4, w1]
                      exact round_end ⟨i + 1, ⟨rfl, by simp only [go_sem, add_ob, set_ob, q.s1], by simp only [go_sem, add_ob, set_ob]; rfl, by omega, next (by rw [hri, hn, hx3, hs, Bool.or_true]; rfl)⟩⟩ (by simp only [go_sem, add_ob, set_ob]; omega)
              · have b1 : decide ((i : Int) < (v.names.length : Int)) = false := by simp; omega
                simp only [go_sem, add_ob, set_ob, q.s1, q.s4, b1, soundSt]
                exact ⟨rfl, by simp only [go_sem, add_ob, set_ob, q.s1], all_of fun j hj => q.ok j (by omega)⟩
            · intro f3 T3 h3
              obtain rfl := h3.st
              simp only [go_sem, add_ob, set_ob, h3.s1, soundSt]
              refine loop_cut (JIds v S) ?_ ?_
              · refine dloop_mk (LIdsE v S) (fun f _ => v.ids.length - slotN (f 5)) ⟨0, ⟨rfl, by simp only [go_sem, add_ob, set_ob, h3.s1], by simp only [go_sem, add_ob, set_ob]; rfl, by omega, fun j hj => by omega⟩⟩ ?_
                rintro g T ⟨i, q⟩
                obtain rfl := q.st
                by_cases hlt : i < v.ids.length
                · have b1 : decide ((i : Int) < (v.ids.length : Int)) = true := by simp; omega
                  have hx := getD_map u64D v.ids i hlt
                  have c1 : (0 : Int) ≤ (i : Int) := by omega
                  have c2 : (i : Int) < (v.ids.length : Int) := by omega
                  have w1 : IntKind.i64.wrap ((i : Int) + 1) = (i : Int) + 1 := IntWalk.i64_in _ ⟨by omega, by omega⟩
                  have bad : idOk v.ids i = false → soundV (k + 1) v = false := fun hh => by
                    simp only [soundV, hereV, all_not (p := idOk v.ids) hlt hh, Bool.false_and, Bool.and_false]
                  simp only [go_sem, add_ob, set_ob, q.s1, q.s5, b1, soundSt]
                  refine loop_cut (LIn v S i · · i) ?_ ?_
                  · refine dloop_mk (LInE v S i) (fun f _ => i - slotN (f 6)) ⟨0, ⟨rfl, by simp only [go_sem, add_ob, set_ob, q.s1], by simp only [go_sem, add_ob, set_ob, q.s5], by simp only [go_sem, add_ob, set_ob]; rfl, by omega, fun j hj => by omega⟩⟩ ?_
                    rintro g2 T2 ⟨j, p⟩
                    obtain rfl := p.st
                    by_cases hjl : j < i
                    · have b2 : decide ((j : Int) < (i : Int)) = true := by simp; omega
                      have hx2 := getD_map u64D v.ids j (by omega)
                      have c3 : (0 : Int) ≤ (j : Int) := by omega
                      have c4 : (j : Int) < (v.ids.length : Int) := by omega
                      have w2 : IntKind.i64.wrap ((j : Int) + 1) = (j : Int) + 1 := IntWalk.i64_in _ ⟨by omega, by omega⟩
                      simp only [go_sem, add_ob, set_ob, p.s1, p.s5, p.s6, b2, soundSt]
                      refine ddraw_mk 11 (by kernel_rfl) ?_
                      simp only [go_sem, add_ob, set_ob, p.s1, p.s5, p.s6, hx, hx2, c1, c2, c3, c4]
                      by_cases he : v.ids[i] = v.ids[j]
                      · have b3 : ((v.ids[i] : Int) == (v.ids[j] : Int)) = true := by simp [he]
                        simp only [go_sem, add_ob, set_ob, b3]
                        have hm : v.ids.getD i 0 ∈ v.ids.take i := (mem_take_iff _ _ _ (by omega)).2 ⟨j, hjl, by rw [getD_at (by omega), getD_at hlt, he]⟩
                        have hbad : idOk v.ids i = false := by
                          show (!decide (v.ids.getD i 0 = 0) && !decide (v.ids.getD i 0 ∈ v.ids.take i)) = false
                          rw [decide_eq_true hm, Bool.not_true, Bool.and_false]
                        exact ⟨by rw [bad hbad]; rfl, (St.Sub.refl S).add hS _⟩
                      · have b3 : ((v.ids[i] : Int) == (v.ids[j] : Int)) = false := by simp; omega
                        simp only [go_sem, add_ob, set_ob, b3, p.s6, w2]
                        exact round_end ⟨j + 1, ⟨rfl, by simp only [go_sem, add_ob, set_ob, p.s1], by simp only [go_sem, add_ob, set_ob, p.s5], by simp only [go_sem, add_ob, set_ob]; rfl, by omega, fun r hr => by
                          by_cases e : r = j
                          · subst e; rw [getD_at (by omega), getD_at hlt]; exact fun h => he h.symm
                          · exact p.no r (by omega)⟩⟩ (by simp only [go_sem, add_ob, set_ob, p.s6]; omega)
                    · have b2 : decide ((j : Int) < (i : Int)) = false := by simp; omega
                      simp only [go_sem, add_ob, set_ob, p.s1, p.s5, p.s6, b2, soundSt]
                      have : j = i := by have := p.le; omega
                      subst this
                      exact ⟨rfl, by simp only [go_sem, add_ob, set_ob, p.s1], by simp only [go_sem, add_ob, set_ob, p.s5], by simp only [go_sem, add_ob, set_ob, p.s6], Nat.le_refl _, p.no⟩
                  · intro f4 T4 h4
                    obtain rfl := h4.st
                    simp only [go_sem, add_ob, set_ob, h4.s1, h4.s5, hx, c1, c2, soundSt]
                    by_cases hz : v.ids[i] = 0
                    · have b3 : ((v.ids[i] : Int) == 0) = true := by simp [hz]
                      simp only [go_sem, add_ob, set_ob, b3, c1, c2, true_and]
                      have hbad : idOk v.ids i = false := by
                        show (!decide (v.ids.getD i 0 = 0) && !decide (v.ids.getD i 0 ∈ v.ids.take i)) = false
                        rw [decide_eq_true (show v.ids.getD i 0 = 0 by rw [getD_at hlt]; exact hz)]; rfl
                      exact ⟨by rw [bad hbad]; rfl, (St.Sub.refl S).add hS _⟩
                    · have b3 : ((v.ids[i] : Int) == 0) = false := by simp; omega
                      simp only [go_sem, add_ob, set_ob, b3, h4.s5, w1, c1, c2]
                      have hi : idOk v.ids i = true := by
                        have hm : ¬ v.ids.getD i 0 ∈ v.ids.take i := fun hm => by
                          obtain ⟨r, hr, e⟩ := (mem_take_iff _ _ _ (by omega)).1 hm
                          exact h4.no r hr e
                        show (!decide (v.ids.getD i 0 = 0) && !decide (v.ids.getD i 0 ∈ v.ids.take i)) = true
                        rw [decide_eq_false hm, decide_eq_false (show ¬ v.ids.getD i 0 = 0 by rw [getD_at hlt]; exact hz)]; rfl
                      exact round_end ⟨i + 1, ⟨rfl, by simp only [go_sem, add_ob, set_ob, h4.s1], by simp only [go_sem, add_ob, set_ob]; rfl, by omega, fun j hj => by
                        by_cases e : j = i
                        · rw [e]; exact hi
                        · exact q.ok j (by omega)⟩⟩ (by simp only [go_sem, add_ob, set_ob, q.s5]; omega)
                · have b1 : decide ((i : Int) < (v.ids.length : Int)) = false := by simp; omega
                  simp only [go_sem, add_ob, set_ob, q.s1, q.s5, b1, soundSt]
                  exact ⟨rfl, by simp only [go_sem, add_ob, set_ob, q.s1], all_of fun j hj => q.ok j (by omega)⟩
              · intro f5 T5 h5
                obtain rfl := h5.st
                simp only [go_sem, add_ob, set_ob, h5.s1, soundSt]
                have hhere : hereV v = true := by simp only [hereV, hb1, hb2, h3.ok, h5.ok]; rfl
                refine dloop_mk (LPartsE v k S) (fun f _ => v.parts.length - slotN (f 7)) ⟨0, ⟨rfl, by simp only [go_sem, add_ob, set_ob, h5.s1], by simp only [go_sem, add_ob, set_ob]; rfl, by omega, fun j _ hj => by omega⟩⟩ ?_
                rintro g T ⟨i, q⟩
                obtain rfl := q.st
                by_cases hlt : i < v.parts.length
                · have b1 : decide ((i : Int) < (v.parts.length : Int)) = true := by simp; omega
                  have hx := getD_map encV v.parts i hlt
                  have c1 : (0 : Int) ≤ (i : Int) := by omega
                  have c2 : (i : Int) < (v.parts.length : Int) := by omega
                  have w1 : IntKind.i64.wrap ((i : Int) + 1) = (i : Int) + 1 := IntWalk.i64_in _ ⟨by omega, by omega⟩
                  simp only [go_sem, add_ob, set_ob, q.s1, q.s7, b1, hx, c1, c2, soundSt]
                  have hd := DVal.depth_part (List.getElem_mem hlt)
                  refine DCalls.of_pure (ih v.parts[i] (by omega) (o9 _ (List.getElem_mem hlt))) ?_
                  cases hs : soundV k v.parts[i] with
                  | false =>
                    simp only [go_sem, add_ob, set_ob, hs]
                    refine ⟨?_, (St.Sub.refl S).add hS _⟩
                    rw [show soundV (k + 1) v = false by simp only [soundV, hhere, Bool.true_and]; exact List.all_eq_false.2 ⟨_, List.getElem_mem hlt, by rw [hs]; simp⟩]
                    rfl
                  | true =>
                    simp only [go_sem, add_ob, set_ob, hs, q.s7, w1]
                    exact round_end ⟨i + 1, ⟨rfl, by simp only [go_sem, add_ob, set_ob, q.s1], by simp only [go_sem, add_ob, set_ob]; rfl, by omega, fun j hj hji => by
                      by_cases e : j = i
                      · subst e; exact hs
                      · exact q.ok j hj (by omega)⟩⟩ (by simp only [go_sem, add_ob, set_ob]; omega)
                · have b1 : decide ((i : Int) < (v.parts.length : Int)) = false := by simp; omega
                  simp only [go_sem, add_ob, set_ob, q.s1, q.s7, b1, soundSt]
                  refine ⟨?_, (St.Sub.refl S).add hS _⟩
                  rw [show soundV (k + 1) v = true by
                    simp only [soundV, hhere, Bool.true_and]
                    exact List.all_eq_true.2 fun p hp => by
                      obtain ⟨j, hj, rfl⟩ := List.getElem_of_mem hp
                      exact q.ok j hj (by omega)]
                  rfl
        · have hsl : v.s.length ≤ maxLen := o3
          have hwr : IntKind.i64.wrap ((v.names.length : Int) + (v.ids.length : Int)) = (v.names.length : Int) + (v.ids.length : Int) := IntWalk.i64_in _ ⟨by omega, by omega⟩
          repeat' first | (refine DCalls.of_pure (refName_d v.s hsl) ?_; simp only [go_sem, add_ob, set_ob, h.s1, h.s3, hwr]) | (refine dg_mk (fun hb => ?_) (fun hb => ?_) <;> (simp only [go_sem, add_ob, set_ob, hb, h.s1, h.s3, hwr]; simp at hb))
          all_goals refine ⟨rfl, by simp only [go_sem, add_ob, set_ob, h.s1], ?_⟩
          all_goals simp only [go_sem, add_ob, set_ob]
          all_goals
            congr 2
            rw [Bool.eq_iff_iff]
            simp only [decide_eq_true_eq, Bool.false_eq_true, false_iff, true_iff, bne_iff_ne, Bool.not_eq_true'] at *
            simp only [bad2, ← List.length_eq_zero_iff] at *
            cases hnb : nameB v.s <;> simp only [hnb, Bool.true_eq_false, Bool.false_eq_true, and_true, and_false, false_or, not_true_eq_false, not_false_eq_true] at * <;> first | done | omega
    · repeat' (refine dg_mk (fun hb => ?_) (fun hb => ?_) <;> (simp only [go_sem, add_ob, set_ob, hb]; simp at hb))
      all_goals refine ⟨rfl, by simp only [go_sem, add_ob, set_ob], by simp only [go_sem, add_ob, set_ob], ?_⟩
      all_goals simp only [go_sem, add_ob, set_ob]
      all_goals
        congr 2
        rw [Bool.eq_iff_iff]
        simp only [decide_eq_true_eq, Bool.false_eq_true, false_iff, true_iff] at *
        simp only [bad1, ← List.length_eq_zero_iff] at *
        omega
end Go.Proofs.YtbcabejdchkpmaaGreatDoor

namespace Go.Proofs.YtbcabejdchkpmaaGreatDoor
open Go.RowKit
theorem plain_hereV (v : DVal) : plainV v = hereV v := by
  unfold plainV hereV riseV idsB
  have hR0 : v.names.length = 0 → (List.range v.names.length).all (riseOk v.names) = true := fun h => by rw [h]; rfl
  have hI0 : v.ids.length = 0 → (List.range v.ids.length).all (idOk v.ids) = true := fun h => by rw [h]; rfl
  have hs : decide (v.s = []) = decide (v.s.length = 0) := by rw [decide_eq_decide, List.length_eq_zero_iff]
  rw [hs]
  have hR : (List.range v.names.length).all (riseOk v.names) = true ∨ ((List.range v.names.length).all (riseOk v.names) = false ∧ 0 < v.names.length) := by
    cases h : (List.range v.names.length).all (riseOk v.names) with
    | true => exact .inl rfl
    | false => exact .inr ⟨rfl, Nat.pos_of_ne_zero fun e => by rw [hR0 e] at h; cases h⟩
  have hI : (List.range v.ids.length).all (idOk v.ids) = true ∨ ((List.range v.ids.length).all (idOk v.ids) = false ∧ 0 < v.ids.length) := by
    cases h : (List.range v.ids.length).all (idOk v.ids) with
    | true => exact .inl rfl
    | false => exact .inr ⟨rfl, Nat.pos_of_ne_zero fun e => by rw [hI0 e] at h; cases h⟩
  clear hR0 hI0 hs
  generalize (List.range v.names.length).all (riseOk v.names) = R at *
  generalize (List.range v.ids.length).all (idOk v.ids) = J at *
  generalize nameB v.s = bn at *
  generalize v.kind = kd at *
  generalize v.n = n at *
  generalize v.s.length = xl at *
  generalize v.names.length = nn at *
  generalize v.ids.length = ni at *
  generalize v.parts.length = np at *
  have hk : kd = 1 ∨ kd = 2 ∨ kd = 3 ∨ kd = 4 ∨ kd = 5 ∨ kd = 6 ∨ (kd < 1 ∨ 6 < kd) := by omega
  rw [Bool.eq_iff_iff]
  rcases hR with rfl | ⟨rfl, hR⟩ <;> rcases hI with rfl | ⟨rfl, hI⟩ <;> cases bn <;> rcases hk with rfl | rfl | rfl | rfl | rfl | rfl | hk
  all_goals first
    | (simp only [Int.reduceEq, reduceIte, Bool.and_eq_true, decide_eq_true_eq, Bool.not_eq_true', decide_eq_false_iff_not, Bool.false_eq_true, Bool.or_eq_true, and_true, true_and, and_false, false_and, false_iff, iff_false] <;> (try simp only [bad1, bad2, Int.reduceEq, Int.reduceLT, Bool.false_eq_true, Bool.true_eq_false, and_true, and_false, true_and, false_and, false_or, or_false, true_or, or_true, ne_eq, not_true_eq_false, not_false_eq_true]) <;> omega)
    | (rw [if_neg (by omega), if_neg (by omega), if_neg (by omega), if_neg (by omega), if_neg (by omega), if_neg (by omega)]; simp only [Bool.and_eq_true, decide_eq_true_eq, Bool.not_eq_true', decide_eq_false_iff_not, Bool.false_eq_true, Bool.or_eq_true, and_true, true_and, and_false, false_and, false_iff, iff_false] <;> (try simp only [bad1, bad2, Bool.false_eq_true, Bool.true_eq_false, and_true, and_false, true_and, false_and, false_or, or_false, true_or, or_true, ne_eq, not_true_eq_false, not_false_eq_true]) <;> omega)
theorem depthsV_all (l : List DVal) (k : Nat) : DVal.depths l ≤ k ↔ ∀ p ∈ l, p.depth ≤ k := by
  induction l with
  | nil => simp [DVal.depths]
  | cons x l ih =>
    simp only [DVal.depths, List.mem_cons, forall_eq_or_imp]
    rw [← ih]; omega
theorem right_soundV (k : Nat) : ∀ (s : DVal) (m : Nat), s.depth ≤ m → rightV k s = (decide (s.depth ≤ k) && soundV m s) := by
  induction k with
  | zero => intro s m _; have := s.depth_pos; simp [rightV]; omega
  | succ k ih =>
    intro s m hm
    obtain ⟨m, rfl⟩ : ∃ n, m = n + 1 := ⟨m - 1, by have := s.depth_pos; omega⟩
    have hd := s.depth_eq
    rw [Bool.eq_iff_iff]
    simp only [rightV, soundV, Bool.and_eq_true, decide_eq_true_eq, plain_hereV, List.all_eq_true]
    have hall := depthsV_all s.parts
    constructor
    · rintro ⟨h1, h2⟩
      have h3 : ∀ p ∈ s.parts, p.depth ≤ k ∧ soundV m p = true := fun p hp => by
        have := h2 p hp
        rw [ih p m (by have := DVal.depth_part hp; omega)] at this
        simpa using this
      exact ⟨by have := (hall k).2 (fun p hp => (h3 p hp).1); omega, h1, fun p hp => (h3 p hp).2⟩
    · rintro ⟨h0, h1, h2⟩
      refine ⟨h1, fun p hp => ?_⟩
      rw [ih p m (by have := DVal.depth_part hp; omega), h2 p hp, Bool.and_true, decide_eq_true_eq]
      exact (hall k).1 (by omega) p hp
theorem arg_val {P : Program} {w : World} {η : Names} {X : Nat → Nat → Prop} {v : DVal} {vs : List Value} (hok : okV v) (h : RepL P w η X [encV v] vs) : ∃ cs : List Value, vs = [.agg cs.toArray] ∧ IsVal w (· < w.heap.size) v cs := by
  simp only [RepL] at h
  obtain ⟨x, xs, rfl, h1, rfl⟩ := h
  obtain ⟨cs, rfl, hv⟩ := val_of_rep v.depth v (Nat.le_refl _) hok h1
  exact ⟨cs, rfl, hv⟩
theorem dpure_val {P : Program} {g : FuncId} {v : DVal} {r : Value} (hok : okV v) (hent : ∀ vs w, (callFunc g vs).run P w = .ok (.enter g vs) w) (h : ∀ (w : World) (cs : List Value), IsVal w (· < w.heap.size) v cs → Calls P g #[.agg cs.toArray] w (Gives r w)) : DPure P g [encV v] (.v r) :=
  dpure_of_gives hent fun w η X vs hr => by obtain ⟨cs, rfl, hv⟩ := arg_val hok hr; exact h w cs hv
theorem greatV_d (v : DVal) (hok : okV v) : DPure Tryz.prog 4 [encV v] (.v (.bool (decide (roomV 12 v 300 < 0)))) := dpure_val hok (fun _ _ => by kernel_rfl) fun w cs h => greatV_calls v cs w h
theorem valRight_d (v : DVal) (hok : okV v) : DPure Tryz.prog 15 [encV v] (.v (.bool (rightV 5 v))) := dpure_val hok (fun _ _ => by kernel_rfl) fun w cs h => valRightP_calls v cs w h
theorem refValDepth_d (v : DVal) (hok : okV v) (hd : v.depth ≤ 1000000) : DPure Tryz.prog 18 [encV v] (.v (.int .i64 v.depth)) := dpure_val hok (fun _ _ => by kernel_rfl) fun w cs h => refValDepth_calls 1000000 v cs w hd (Nat.le_refl _) h
theorem refValRight_d (v : DVal) (hok : okV v) (hd : v.depth ≤ 1000000) : DPure Tryz.prog 7 [encV v] (.v (.bool (rightV 5 v))) := by
  have hr := right_soundV 5 v v.depth (Nat.le_refl _)
  refine dpure_of_dwp mixed Tryz.func7 rfl (fun _ _ => by kernel_rfl) (rs := [.tmp 2]) rfl (by kernel_rfl) trivial (fun S hS => ?_)
  simp only [go_sem, add_ob, set_ob]
  refine DCalls.of_pure (refValDepth_d v hok hd) ?_
  simp only [go_sem, add_ob, set_ob]
  by_cases h5 : v.depth ≤ 5
  · have b1 : decide ((v.depth : Int) ≤ 5) = true := by simp; omega
    simp only [go_sem, add_ob, set_ob, b1]
    refine DCalls.of_pure (refSoundV_d v.depth v (Nat.le_refl _) hok) ?_
    simp only [go_sem, add_ob, set_ob]
    exact ⟨by rw [hr, decide_eq_true h5]; rfl, (St.Sub.refl S).add hS _⟩
  · have b1 : decide ((v.depth : Int) ≤ 5) = false := by simp; omega
    simp only [go_sem, add_ob, set_ob, b1]
    exact ⟨by rw [hr, decide_eq_false h5]; rfl, (St.Sub.refl S).add hS _⟩
theorem sne1_2 (n : Nat) : (n + 1 = n + 2) = False := eq_false (by omega)
theorem sne1_3 (n : Nat) : (n + 1 = n + 3) = False := eq_false (by omega)
theorem sne1_4 (n : Nat) : (n + 1 = n + 4) = False := eq_false (by omega)
theorem sne2_1 (n : Nat) : (n + 2 = n + 1) = False := eq_false (by omega)
theorem sne2_3 (n : Nat) : (n + 2 = n + 3) = False := eq_false (by omega)
theorem sne2_4 (n : Nat) : (n + 2 = n + 4) = False := eq_false (by omega)
theorem sne3_1 (n : Nat) : (n + 3 = n + 1) = False := eq_false (by omega)
theorem sne3_2 (n : Nat) : (n + 3 = n + 2) = False := eq_false (by omega)
theorem sne3_4 (n : Nat) : (n + 3 = n + 4) = False := eq_false (by omega)
theorem sne4_1 (n : Nat) : (n + 4 = n + 1) = False := eq_false (by omega)
theorem sne4_2 (n : Nat) : (n + 4 = n + 2) = False := eq_false (by omega)
theorem sne4_3 (n : Nat) : (n + 4 = n + 3) = False := eq_false (by omega)
theorem sne1_0 (n : Nat) : (n + 1 = n) = False := eq_false (by omega)
theorem sne0_1 (n : Nat) : (n = n + 1) = False := eq_false (by omega)
theorem sne2_0 (n : Nat) : (n + 2 = n) = False := eq_false (by omega)
theorem sne0_2 (n : Nat) : (n = n + 2) = False := eq_false (by omega)
theorem sne3_0 (n : Nat) : (n + 3 = n) = False := eq_false (by omega)
theorem sne0_3 (n : Nat) : (n = n + 3) = False := eq_false (by omega)
theorem sne4_0 (n : Nat) : (n + 4 = n) = False := eq_false (by omega)
theorem sne0_4 (n : Nat) : (n = n + 4) = False := eq_false (by omega)
attribute [go_sem] sne1_2 sne1_3 sne1_4 sne2_1 sne2_3 sne2_4 sne3_1 sne3_2 sne3_4 sne4_1 sne4_2 sne4_3 sne1_0 sne0_1 sne2_0 sne0_2 sne3_0 sne0_3 sne4_0 sne0_4
theorem bin_beql {x y : Operand} (a b : Bool) : dbin Tryz.prog .eql 4 x y (.v (.bool a)) (.v (.bool b)) = some (True, .v (.bool (a == b))) := by
  cases a <;> cases b <;> kernel_rfl
attribute [go_sem] bin_beql
theorem strArg {P : Program} {w : World} {η : Names} {X : Nat → Nat → Prop} {own : Own} {l : List Str} {y : Value} (h : Rep P w η X (.sl own (l.map strD)) y) : ∃ A c, y = .slice A l.length c ∧ l.length ≤ c ∧ RF w (· < w.heap.size) 1 A l.length (l.map sv) := scalars_of_rep sv h
def RV (v : DVal) : Prop := ∃ m, v.depth ≤ m ∧ soundV m v = true
theorem RV.part {v p : DVal} (h : RV v) (hp : p ∈ v.parts) : RV p := by
  obtain ⟨m, h1, h2⟩ := h
  obtain ⟨m, rfl⟩ : ∃ n, m = n + 1 := ⟨m - 1, by have := v.depth_pos; omega⟩
  rw [soundV, Bool.and_eq_true] at h2
  exact ⟨m, by have := DVal.depth_part hp; omega, List.all_eq_true.1 h2.2 p hp⟩
theorem RV.here {v : DVal} (h : RV v) : (v.kind ≠ 5 → v.names.length = 0) ∧ (v.kind ≠ 6 → v.ids.length = 0) ∧ v.parts.length = v.names.length + v.ids.length := by
  obtain ⟨m, h1, h2⟩ := h
  obtain ⟨m, rfl⟩ : ∃ n, m = n + 1 := ⟨m - 1, by have := v.depth_pos; omega⟩
  rw [soundV, Bool.and_eq_true, hereV, Bool.and_eq_true, Bool.and_eq_true, Bool.not_eq_true', Bool.not_eq_true', decide_eq_false_iff_not, decide_eq_false_iff_not] at h2
  have h3 := h2.1.1.1
  have h4 := h2.1.1.2
  unfold bad1 at h3
  unfold bad2 at h4
  omega
theorem RV.of_right {v : DVal} (h : rightV 5 v = true) : RV v := ⟨v.depth, Nat.le_refl _, by
  have := right_soundV 5 v v.depth (Nat.le_refl _)
  rw [h] at this
  exact (Bool.and_eq_true _ _ ▸ this.symm).2⟩
theorem i64_0 : I64 0 := WalkArith.wf_i64 (by omega)
end Go.Proofs.YtbcabejdchkpmaaGreatDoor

namespace Go.Proofs.YtbcabejdchkpmaaGreatDoor
open Go.RowKit
def rowOb (S : St) (own : Own) (e : TypeId) (n : Nat) : Nat → Option Ob := fun k => match own with
  | .row g => if k = g then some (.row e n) else S.ob k
  | _ => S.ob k
theorem row_sub {S : St} (hS : S.WF) {e : TypeId} {own : Own} {i n : Nat} (h : (i = 0 ∧ own = .full) ∨ (0 < i ∧ ∃ g, own = .row g ∧ S.next ≤ g ∧ g < n)) (hn : S.next ≤ n) : S.Sub ⟨n, rowOb S own e i⟩ := ⟨hn, fun k o hk => by
  rcases h with ⟨_, rfl⟩ | ⟨_, g, rfl, h1, _⟩
  · exact hk
  · have := hS.lt hk
    show (if k = g then _ else _) = _
    rw [if_neg (by omega)]
    exact hk⟩
theorem closed_slV (l : List DVal) : (D.sl .no (l.map encV)).closed := by
  simp only [D.closed, D.all, Own.all]
  exact ⟨trivial, by rw [← encVs_map]; exact closed_encVs l⟩
theorem row_next {S : St} (hS : S.WF) {e : TypeId} {own : Own} {i n : Nat} (h : (i = 0 ∧ own = .full) ∨ (0 < i ∧ ∃ g, own = .row g ∧ S.next ≤ g ∧ g < n)) (hn : S.next ≤ n) (o1 o2 : Ob) (m : Nat) :
    ∀ k o, rowOb S (.row (n + 1)) e m k = some o → (((St.add ⟨n, rowOb S own e i⟩ o1).set n o2).grow own e m).ob k = some o := fun k o hk => by
  by_cases h1 : k = n + 1
  · subst h1
    simp only [rowOb, if_true] at hk
    rcases h with ⟨_, rfl⟩ | ⟨_, g, rfl, _, _⟩
    · rw [grow_full_ob, set_next, add_next, if_pos rfl, hk]
    · rw [grow_row_ob, set_next, add_next, if_pos rfl, hk]
  · simp only [rowOb, if_neg h1] at hk
    have h2 := hS.lt hk
    rcases h with ⟨_, rfl⟩ | ⟨_, g, rfl, h3, h4⟩
    · rw [grow_full_ob, set_next, add_next, if_neg h1, set_ob, add_ob, if_neg (by omega)]
      show (if k = n then _ else rowOb S .full e i k) = _
      rw [if_neg (by omega)]
      exact hk
    · rw [grow_row_ob, set_next, add_next, if_neg h1, if_neg (by omega), set_ob, add_ob, if_neg (by omega)]
      show (if k = n then _ else rowOb S (.row g) e i k) = _
      rw [if_neg (by omega)]
      show (if k = g then _ else _) = _
      rw [if_neg (by omega)]
      exact hk
structure LC (l : List DVal) (S : St) (f : Fm) (T : St) (i : Nat) (own : Own) : Prop where
  st : T.ob = rowOb S own 26 i
  nx : S.next ≤ T.next
  ow : (i = 0 ∧ own = .full) ∨ (0 < i ∧ ∃ g, own = .row g ∧ S.next ≤ g ∧ g < T.next)
  s1 : f 1 = .fn (.func 43) [] []
  s5 : f 5 = .sl own ((l.take i).map encV)
  s8 : f 8 = .sl .no (l.map encV)
  s9 : f 9 = .v (.int .i64 l.length)
  s10 : f 10 = .v (.int .i64 i)
  le : i ≤ l.length
def LCE (l : List DVal) (S : St) (f : Fm) (T : St) : Prop := ∃ i own, LC l S f T i own
set_option maxRecDepth 200000 in
set_option maxHeartbeats 4000000 in
theorem copyParts_d (l : List DVal) (hl : l.length ≤ 1000000) (h : ∀ p ∈ l, DPure Tryz.prog 43 [encV p] (encV p)) : DPure Tryz.prog 68 [.sl .no (l.map encV), .fn (.func 43) [] []] (.sl .no (l.map encV)) := by
  refine dpure_of_dwp mixed Tryz.func68 rfl (fun _ _ => by kernel_rfl) (rs := [.tmp 4]) rfl (by kernel_rfl) (closed_slV l) (fun S hS => ?_)
  simp only [go_sem, add_ob, set_ob]
  refine dloop_mk (LCE l S) (fun f _ => l.length - slotN (f 10)) ⟨0, .full, ⟨rfl, Nat.le_refl _, .inl ⟨rfl, rfl⟩, by simp only [go_sem, add_ob, set_ob], by simp only [go_sem, add_ob, set_ob], by simp only [go_sem, add_ob, set_ob], by simp only [go_sem, add_ob, set_ob], by simp only [go_sem, add_ob, set_ob]; rfl, by omega⟩⟩ ?_
  rintro g ⟨tn, tob⟩ ⟨i, own, q⟩
  obtain rfl : tob = rowOb S own 26 i := q.st
  have nx : S.next ≤ tn := q.nx
  by_cases hlt : i < l.length
  · have b1 : decide ((i : Int) < (l.length : Int)) = true := by simp; omega
    have hx := getD_map encV l i hlt
    have c1 : (0 : Int) ≤ (i : Int) := by omega
    have c2 : (i : Int) < (l.length : Int) := by omega
    have w1 : IntKind.i64.wrap ((i : Int) + 1) = (i : Int) + 1 := IntWalk.i64_in _ ⟨by omega, by omega⟩
    simp only [go_sem, add_ob, set_ob, q.s1, q.s5, q.s8, q.s9, q.s10, b1, hx, c1, c2]
    refine DCalls.of_pure (h l[i] (List.getElem_mem hlt)) ?_
    simp only [go_sem, add_ob, set_ob, q.s1, q.s5, q.s8, q.s9, q.s10, w1]
    refine ⟨⟨by rfl, fun d hd => by rw [List.mem_singleton] at hd; subst hd; exact ⟨okCell_encV _, cells_encV _⟩⟩, dapp_row ?_⟩
    simp only [go_sem, add_ob, set_ob, q.s1, q.s5, q.s8, q.s9, q.s10, w1]
    have hlt2 : (l.take i).length = i := by rw [List.length_take]; omega
    have hsub0 : S.Sub ⟨tn, rowOb S own 26 i⟩ := row_sub hS q.ow nx
    refine ⟨rfl, fun d hd => ?_, fun d hd => ?_, ?_, by omega, by omega, ?_⟩
    · obtain ⟨p, _, rfl⟩ := List.mem_map.1 hd; exact cells_encV _
    · rw [List.mem_singleton] at hd; subst hd; exact cells_encV _
    · rcases q.ow with ⟨rfl, rfl⟩ | ⟨h0, g', rfl, hg1, hg2⟩
      · trivial
      · have e2 : (g' : Nat) ≠ tn := by have hg : g' < tn := hg2; omega
        simp only [e2, if_false, rowOb, if_true, hlt2]
    · refine round_back (rowOb S (.row (tn + 1)) 26 (i + 1)) ?_ ⟨i + 1, .row (tn + 1), ⟨rfl, ?_, .inr ⟨by omega, _, rfl, by omega, ?_⟩, by simp only [go_sem, add_ob, set_ob, q.s1], ?_, by simp only [go_sem, add_ob, set_ob, q.s8], by simp only [go_sem, add_ob, set_ob, q.s9], by simp only [go_sem, add_ob, set_ob]; rfl, by omega⟩⟩ (by simp only [go_sem, add_ob, set_ob]; omega)
      · rw [hlt2]; exact row_next hS q.ow nx _ _ _
      · show S.next ≤ _
        simp only [grow_next, set_next, add_next]; omega
      · simp only [grow_next, set_next, add_next]; omega
      · simp only [go_sem, add_ob, set_ob]
        rw [List.take_succ_eq_append_getElem hlt, List.map_append]
        rfl
  · have b1 : decide ((i : Int) < (l.length : Int)) = false := by simp; omega
    simp only [go_sem, add_ob, set_ob, q.s1, q.s5, q.s8, q.s9, q.s10, b1]
    have hi : i = l.length := by have := q.le; omega
    exact ⟨by rw [hi, List.take_length]; simp only [D.frz, frz_mapV], row_sub hS q.ow nx⟩
theorem partsLen (v : DVal) : v.parts.length ≤ DVal.weights v.parts := by
  have : ∀ l : List DVal, l.length ≤ DVal.weights l := fun l => by
    induction l with
    | nil => exact Nat.zero_le _
    | cons p l ih => simp only [DVal.weights, List.length_cons]; have := p.weight_eq; omega
  exact this _
set_option maxRecDepth 200000 in
set_option maxHeartbeats 4000000 in
theorem copyV_d (k : Nat) : ∀ (v : DVal), v.depth ≤ k → v.weight ≤ 1000000 → DPure Tryz.prog 43 [encV v] (encV v) := by
  induction k with
  | zero => intro v h; have := v.depth_pos; omega
  | succ k ih =>
    intro v hk hw
    have hwe := v.weight_eq
    have hpl := partsLen v
    have hparts := copyParts_d v.parts (by omega) fun p hp => ih p (by have := DVal.depth_part hp; omega) (by have := DVal.weight_part hp; omega)
    refine dpure_of_dwp mixed Tryz.func43 rfl (fun _ _ => by kernel_rfl) (rs := [.cell 2 26]) rfl (by kernel_rfl) (closed_encV v) (fun S hS => ?_)
    simp only [go_sem, add_ob, set_ob, encV_eq v]
    refine ddraw_mk 7 (by kernel_rfl) ?_
    simp only [go_sem, add_ob, set_ob]
    refine ⟨⟨rfl, (fun d hd => by cases hd), (fun d hd => by obtain ⟨p, _, rfl⟩ := List.mem_map.1 hd; rfl), by omega, by omega⟩, ⟨rfl, (fun d hd => by cases hd), (fun d hd => by obtain ⟨p, _, rfl⟩ := List.mem_map.1 hd; rfl), by omega, by omega⟩, ?_⟩
    refine DCalls.of_pure hparts ?_
    simp only [go_sem, add_ob, set_ob]
    refine ⟨?_, ?_⟩
    · simp only [D.frz, frzL, frz_strs, frz_u64s, frz_mapV, strD]
    · exact ((((((St.Sub.refl S).add hS _).add hS _).set hS (Nat.le_refl _) _).set hS (Nat.le_refl _) _).set hS (Nat.le_refl _) _).set hS (by omega) _
end Go.Proofs.YtbcabejdchkpmaaGreatDoor
