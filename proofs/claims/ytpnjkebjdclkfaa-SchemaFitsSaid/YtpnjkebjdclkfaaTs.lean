/- Rules by which the walk over trees is computed. Conditions: none. -/
import Derived.Test.YtpnjkebjdclkfaaTy
namespace Go.Proofs.Ytpnjkebjdclkfaa
open Go.RowKit

theorem put_eq (f : Fm) (t : Tmp) (d : D) : put f (some t) d t = d := by simp [put]
theorem put_ne (f : Fm) (t : Tmp) (d : D) (i : Nat) (h : (i == t) = false) : put f (some t) d i = f i := by
  have : Nat.beq i t = false := by
    cases hb : Nat.beq i t with
    | false => rfl
    | true => rw [Nat.eq_of_beq_eq_true hb] at h; simp at h
  simp [put, this]
theorem put_none (f : Fm) (d : D) : put f none d = f := Eq.trans (Eq.refl _) (Eq.refl _)
theorem argF_nil (t : Nat) : argF [] t = undefD := Eq.trans (Eq.refl _) (Eq.refl _)
theorem argF_zero (d : D) (l : List D) : argF (d :: l) 0 = d := Eq.trans (Eq.refl _) (Eq.refl _)
theorem argF_succ (d : D) (l : List D) (t : Nat) : argF (d :: l) (t + 1) = argF l t := Eq.trans (Eq.refl _) (Eq.refl _)
section
variable {P : Program} {x y : Operand} {t : TypeId}
theorem pureRun_bind {α β : Type} (s : Sem α) (g : α → Sem β) : pureRun P (s >>= g) = (pureRun P s).bind fun a => pureRun P (g a) := by
  show pureRun P (Sem.bind s g) = _
  induction s with
  | pure a => rfl
  | program k ih => simp only [Sem.bind, pureRun]; exact ih _
  | mark m k ih => simp only [Sem.bind, pureRun]; exact ih
  | _ => rfl
theorem pureRun_pure {α : Type} (a : α) : pureRun P (pure a : Sem α) = some a := Eq.trans (Eq.refl _) (Eq.refl _)
theorem ofV_int (k : IntKind) (n : Int) : ofV (.int k n) = .v (.int k n) := Eq.trans (Eq.refl _) (Eq.refl _)
theorem ofV_bool (b : Bool) : ofV (.bool b) = .v (.bool b) := Eq.trans (Eq.refl _) (Eq.refl _)
theorem ofV_string (s : ByteArray) : ofV (.string s) = .v (.string s) := Eq.trans (Eq.refl _) (Eq.refl _)
theorem ofV_nil : ofV (.slice none 0 0) = .sl .full [] := Eq.trans (Eq.refl _) (Eq.refl _)
theorem ofV_iface : ofV .nilIface = .v .nilIface := Eq.trans (Eq.refl _) (Eq.refl _)
theorem ofV_func : ofV .nilFunc = .v .nilFunc := Eq.trans (Eq.refl _) (Eq.refl _)
theorem ofV_ptr (a : Option Addr) : ofV (.pointer a) = .v (.pointer a) := Eq.trans (Eq.refl _) (Eq.refl _)
/-! Operations on plain values. -/
theorem bin_add (k : IntKind) (a b : Int) : dbin P .add t x y (.v (.int k a)) (.v (.int k b)) = some (True, .v (.int k (k.wrap (a + b)))) := by
  simp [dbin, eqGuard, binOp, Op.intArith, pureRun_bind, pureRun_pure]
theorem bin_sub (k : IntKind) (a b : Int) : dbin P .sub t x y (.v (.int k a)) (.v (.int k b)) = some (True, .v (.int k (k.wrap (a - b)))) := by
  simp [dbin, eqGuard, binOp, Op.intArith, pureRun_bind, pureRun_pure]
theorem bin_mul (k : IntKind) (a b : Int) : dbin P .mul t x y (.v (.int k a)) (.v (.int k b)) = some (True, .v (.int k (k.wrap (a * b)))) := by
  simp [dbin, eqGuard, binOp, Op.intArith, pureRun_bind, pureRun_pure]
theorem bin_eql (k : IntKind) (a b : Int) : dbin P .eql t x y (.v (.int k a)) (.v (.int k b)) = some (True, .v (.bool (a == b))) := by
  simp [dbin, eqGuard, binOp, Op.intCmp, pureRun_bind, pureRun_pure]
theorem bin_neq (k : IntKind) (a b : Int) : dbin P .neq t x y (.v (.int k a)) (.v (.int k b)) = some (True, .v (.bool (a != b))) := by
  simp [dbin, eqGuard, binOp, Op.intCmp, pureRun_bind, pureRun_pure]
theorem bin_lss (k : IntKind) (a b : Int) : dbin P .lss t x y (.v (.int k a)) (.v (.int k b)) = some (True, .v (.bool (decide (a < b)))) := by
  simp [dbin, eqGuard, binOp, Op.intCmp, pureRun_bind, pureRun_pure]
theorem bin_leq (k : IntKind) (a b : Int) : dbin P .leq t x y (.v (.int k a)) (.v (.int k b)) = some (True, .v (.bool (decide (a ≤ b)))) := by
  simp [dbin, eqGuard, binOp, Op.intCmp, pureRun_bind, pureRun_pure]
theorem bin_gtr (k : IntKind) (a b : Int) : dbin P .gtr t x y (.v (.int k a)) (.v (.int k b)) = some (True, .v (.bool (decide (b < a)))) := by
  simp [dbin, eqGuard, binOp, Op.intCmp, pureRun_bind, pureRun_pure]
theorem bin_geq (k : IntKind) (a b : Int) : dbin P .geq t x y (.v (.int k a)) (.v (.int k b)) = some (True, .v (.bool (decide (b ≤ a)))) := by
  simp [dbin, eqGuard, binOp, Op.intCmp, pureRun_bind, pureRun_pure]
theorem bin_seql (a b : ByteArray) : dbin P .eql t x y (.v (.string a)) (.v (.string b)) = some (True, .v (.bool (a.toList == b.toList))) := by
  simp [dbin, eqGuard, binOp, Op.stringOp, pureRun_bind, pureRun_pure]
theorem bin_sneq (a b : ByteArray) : dbin P .neq t x y (.v (.string a)) (.v (.string b)) = some (True, .v (.bool (!(a.toList == b.toList)))) := by
  simp [dbin, eqGuard, binOp, Op.stringOp, pureRun_bind, pureRun_pure]
theorem bin_slss (a b : ByteArray) : dbin P .lss t x y (.v (.string a)) (.v (.string b)) = some (True, .v (.bool (Op.bytesLess a.toList b.toList))) := by
  simp [dbin, eqGuard, binOp, Op.stringOp, pureRun_bind, pureRun_pure]
theorem bin_sgtr (a b : ByteArray) : dbin P .gtr t x y (.v (.string a)) (.v (.string b)) = some (True, .v (.bool (!(Op.bytesLess a.toList b.toList || a.toList == b.toList)))) := by
  simp [dbin, eqGuard, binOp, Op.stringOp, pureRun_bind, pureRun_pure]
theorem bin_sleq (a b : ByteArray) : dbin P .leq t x y (.v (.string a)) (.v (.string b)) = some (True, .v (.bool (Op.bytesLess a.toList b.toList || a.toList == b.toList))) := by
  simp [dbin, eqGuard, binOp, Op.stringOp, pureRun_bind, pureRun_pure]
theorem bin_sgeq (a b : ByteArray) : dbin P .geq t x y (.v (.string a)) (.v (.string b)) = some (True, .v (.bool (!Op.bytesLess a.toList b.toList))) := by
  simp [dbin, eqGuard, binOp, Op.stringOp, pureRun_bind, pureRun_pure]
theorem un_not (b : Bool) : pureRun P (Op.unary .not (.bool b)) = some (.bool (!b)) := Eq.trans (Eq.refl _) (Eq.refl _)
theorem un_neg (k : IntKind) (n : Int) : pureRun P (Op.unary .neg (.int k n)) = some (.int k (k.wrap (0 - n))) := Eq.trans (Eq.refl _) (Eq.refl _)
theorem bu_len (own : Own) (es : List D) (t ty : TypeId) (cs : Array Bool) {e : TypeId} (h : elT P t = some e) : dbuiltin P .len #[t] ty cs [.sl own es] = some (True, .v (.int .i64 es.length)) := by
  simp [dbuiltin, vals, dlen, h]
theorem bu_slen (s : ByteArray) (t ty : TypeId) (cs : Array Bool) (h : strT P t = true) : dbuiltin P .len #[t] ty cs [.v (.string s)] = some (True, .v (.int .i64 s.size)) := by
  have hu := strT_spec h
  simp [dbuiltin, vals, builtin, Builtin.len_, pureRun_bind, pureRun_pure, underlying, program, pureRun, hu, goInt]
theorem bu_max (k : IntKind) (a b : Int) (ts : Array TypeId) (ty : TypeId) (cs : Array Bool) : dbuiltin P .max ts ty cs [.v (.int k a), .v (.int k b)] = some (True, .v (.int k (if a < b then b else a))) := by
  simp [dbuiltin, vals, builtin, Builtin.max_, Builtin.max2, pureRun_bind, pureRun_pure]
theorem bu_min (k : IntKind) (a b : Int) (ts : Array TypeId) (ty : TypeId) (cs : Array Bool) : dbuiltin P .min ts ty cs [.v (.int k a), .v (.int k b)] = some (True, .v (.int k (if b < a then b else a))) := by
  simp [dbuiltin, vals, builtin, Builtin.min_, Builtin.min2, pureRun_bind, pureRun_pure]
end

/-! The walk, step by step; what follows stands behind a name till it is come to. -/
section
variable {P : Program} {Q : DQ} {f : Fm} {S : St}
def dwpF (P : Program) (c : Code) (Q : DQ) (f : Fm) (S : St) : Prop := dwp P c Q f S
theorem dwpF_eq (c : Code) : dwpF P c Q f S = dwp P c Q f S := Eq.trans (Eq.refl _) (Eq.refl _)
def dIf (c : D) (x y : Prop) : Prop := match c with
  | .v (.bool b) => (b = true → x) ∧ (b = false → y)
  | _ => False
theorem dIf_true (x y : Prop) : dIf (.v (.bool true)) x y = x := by simp [dIf]
theorem dIf_false (x y : Prop) : dIf (.v (.bool false)) x y = y := by simp [dIf]
theorem dIf_mk {b : Bool} {x y : Prop} (h1 : b = true → x) (h2 : b = false → y) : dIf (.v (.bool b)) x y := ⟨h1, h2⟩
theorem dwp_skip : dwp P .skip Q f S = Q .normal f S := Eq.trans (Eq.refl _) (Eq.refl _)
theorem dwp_label (l : Nat) : dwp P (.label l) Q f S = Q .normal f S := Eq.trans (Eq.refl _) (Eq.refl _)
theorem dwp_exit (i : Nat) : dwp P (.exit i) Q f S = Q (.exit i) f S := Eq.trans (Eq.refl _) (Eq.refl _)
theorem dwp_ret : dwp P .ret Q f S = Q .ret f S := Eq.trans (Eq.refl _) (Eq.refl _)
theorem dwp_seq (x y : Code) : dwp P (.seq x y) Q f S = dwp P x (DQ.then (dwp P y Q) Q) f S := Eq.trans (Eq.refl _) (Eq.refl _)
theorem dwp_block (id : Nat) (c : Code) : dwp P (.block id c) Q f S = dwp P c (DQ.block id Q) f S := Eq.trans (Eq.refl _) (Eq.refl _)
theorem dwp_loop (c : Code) : dwp P (.loop c) Q f S = DLoop (dwp P c) Q f S := Eq.trans (Eq.refl _) (Eq.refl _)
theorem dwp_cond (c : Operand) (x y : Code) : dwp P (.cond c x y) Q f S = dIf (ev f c) (dwpF P x Q f S) (dwpF P y Q f S) := by
  unfold dwp dIf dwpF
  rfl
theorem dwp_region (id : Nat) (l : List Oper) : dwp P (.region id (List.toArray l) false) Q f S = dops P (List.toArray l) (Q .normal) l f S := Eq.trans (Eq.refl _) (Eq.refl _)
theorem dwp_draw (id : Nat) (l : List Oper) : dwp P (.region id (List.toArray l) true) Q f S = ddraw P l (Q .normal) f S := Eq.trans (Eq.refl _) (Eq.refl _)
theorem then_normal (k : Fm → St → Prop) : DQ.then k Q .normal f S = k f S := Eq.trans (Eq.refl _) (Eq.refl _)
theorem then_exit (k : Fm → St → Prop) (i : Nat) : DQ.then k Q (.exit i) f S = Q (.exit i) f S := Eq.trans (Eq.refl _) (Eq.refl _)
theorem then_ret (k : Fm → St → Prop) : DQ.then k Q .ret f S = Q .ret f S := Eq.trans (Eq.refl _) (Eq.refl _)
theorem block_normal (id : Nat) : DQ.block id Q .normal f S = Q .normal f S := Eq.trans (Eq.refl _) (Eq.refl _)
theorem block_ret (id : Nat) : DQ.block id Q .ret f S = Q .ret f S := Eq.trans (Eq.refl _) (Eq.refl _)
theorem block_eq (id : Nat) : DQ.block id Q (.exit id) f S = Q .normal f S := by simp [DQ.block]
theorem block_ne (i id : Nat) (h : (i == id) = false) : DQ.block id Q (.exit i) f S = Q (.exit i) f S := by
  have : Nat.beq i id = false := by
    cases hb : Nat.beq i id with
    | false => rfl
    | true => rw [Nat.eq_of_beq_eq_true hb] at h; simp at h
  simp [DQ.block, this]
def dnext (P : Program) (ops : Array Oper) (R : Fm → St → Prop) (r : List Oper) (f : Fm) (dst : Option Tmp) (d : D) (S : St) : Prop := dops P ops R r (put f dst d) S
theorem dnext_eq (ops : Array Oper) (R : Fm → St → Prop) (r : List Oper) (dst : Option Tmp) (d : D) : dnext P ops R r f dst d S = dops P ops R r (put f dst d) S := Eq.trans (Eq.refl _) (Eq.refl _)
def dskip (P : Program) (ops : Array Oper) (R : Fm → St → Prop) (r : List Oper) (f : Fm) (dst : Option Tmp) (S : St) : Prop := dops P ops R r (put f dst undefD) S
theorem dskip_eq (ops : Array Oper) (R : Fm → St → Prop) (r : List Oper) (dst : Option Tmp) : dskip P ops R r f dst S = dops P ops R r (put f dst undefD) S := Eq.trans (Eq.refl _) (Eq.refl _)
def dopF (P : Program) (f : Fm) (S : St) (ty : TypeId) (op : Op) (K : D → St → Prop) : Prop := dop P f S ty op K
theorem dopF_eq (ty : TypeId) (op : Op) (K : D → St → Prop) : dopF P f S ty op K = dop P f S ty op K := Eq.trans (Eq.refl _) (Eq.refl _)
def gtmp : List Oper → Nat → Option Tmp
  | [], _ => none
  | o :: _, 0 => o.dst
  | _ :: l, n + 1 => gtmp l n
theorem gtmp_eq : ∀ (l : List Oper) (n : Nat), ((List.toArray l)[n]?).bind (·.dst) = gtmp l n
  | [], n => by simp [gtmp]
  | o :: l, 0 => by simp [gtmp]
  | o :: l, n + 1 => by have := gtmp_eq l n; simpa [gtmp] using this
theorem gtmp_zero (dst : Option Tmp) (op : Op) (ty : TypeId) (pos : String) (after : Array Edge) (g : Option (Nat × Bool)) (l : List Oper) : gtmp (⟨dst, op, ty, pos, after, g⟩ :: l) 0 = dst := Eq.trans (Eq.refl _) (Eq.refl _)
theorem gtmp_succ (o : Oper) (l : List Oper) (n : Nat) : gtmp (o :: l) (n + 1) = gtmp l n := Eq.trans (Eq.refl _) (Eq.refl _)
def dguardT (t : Option Tmp) (f : Fm) (want : Bool) (y n : Prop) : Prop := match t with
  | some t => match f t with
    | .v (.bool b) => (b = want → y) ∧ (b = !want → n)
    | .tup [] => n
    | _ => False
  | none => False
def dguard (x : D) (want : Bool) (y n : Prop) : Prop := match x with
  | .v (.bool b) => (b = want → y) ∧ (b = !want → n)
  | .tup [] => n
  | _ => False
theorem dguardT_some (t : Tmp) (want : Bool) (y n : Prop) : dguardT (some t) f want y n = dguard (f t) want y n := Eq.trans (Eq.refl _) (Eq.refl _)
theorem dguard_tt (y n : Prop) : dguard (.v (.bool true)) true y n = y := by simp [dguard]
theorem dguard_ff (y n : Prop) : dguard (.v (.bool false)) false y n = y := by simp [dguard]
theorem dguard_tf (y n : Prop) : dguard (.v (.bool true)) false y n = n := by simp [dguard]
theorem dguard_ft (y n : Prop) : dguard (.v (.bool false)) true y n = n := by simp [dguard]
theorem dguard_no (want : Bool) (y n : Prop) : dguard undefD want y n = n := Eq.trans (Eq.refl _) (Eq.refl _)
section
variable {y n : Prop} {ty : TypeId} {op : Op} {K : D → St → Prop} {ops : Array Oper} {R : Fm → St → Prop} {r : List Oper} {dst : Option Tmp}
theorem dg_tt : dguard (.v (.bool true)) true (dopF P f S ty op K) n = dop P f S ty op K := by simp [dguard, dopF]
theorem dg_ff : dguard (.v (.bool false)) false (dopF P f S ty op K) n = dop P f S ty op K := by simp [dguard, dopF]
theorem dg_tf : dguard (.v (.bool true)) false y (dskip P ops R r f dst S) = dops P ops R r (put f dst undefD) S := by simp [dguard, dskip]
theorem dg_ft : dguard (.v (.bool false)) true y (dskip P ops R r f dst S) = dops P ops R r (put f dst undefD) S := by simp [dguard, dskip]
theorem dg_no (want : Bool) : dguard undefD want y (dskip P ops R r f dst S) = dops P ops R r (put f dst undefD) S := Eq.trans (Eq.refl _) (Eq.refl _)
theorem dg_mk {b want : Bool} (h1 : b = want → dop P f S ty op K) (h2 : b = !want → dops P ops R r (put f dst undefD) S) : dguard (.v (.bool b)) want (dopF P f S ty op K) (dskip P ops R r f dst S) := ⟨h1, h2⟩
end
theorem dIf_t (x : Code) (Y : Prop) : dIf (.v (.bool true)) (dwpF P x Q f S) Y = dwp P x Q f S := by simp [dIf, dwpF]
theorem dIf_f (y : Code) (X : Prop) : dIf (.v (.bool false)) X (dwpF P y Q f S) = dwp P y Q f S := by simp [dIf, dwpF]
theorem dIf_both {b : Bool} {x y : Code} (h1 : b = true → dwp P x Q f S) (h2 : b = false → dwp P y Q f S) : dIf (.v (.bool b)) (dwpF P x Q f S) (dwpF P y Q f S) := ⟨h1, h2⟩
theorem dops_nil (ops : Array Oper) (R : Fm → St → Prop) : dops P ops R [] f S = R f S := Eq.trans (Eq.refl _) (Eq.refl _)
theorem dops_plain (ops : Array Oper) (R : Fm → St → Prop) (r : List Oper) (dst : Option Tmp) (op : Op) (ty : TypeId) (pos : String) (after : Array Edge) : dops P ops R (⟨dst, op, ty, pos, after, none⟩ :: r) f S = dop P f S ty op (dnext P ops R r f dst) := Eq.trans (Eq.refl _) (Eq.refl _)
theorem dops_guard (l : List Oper) (R : Fm → St → Prop) (r : List Oper) (dst : Option Tmp) (op : Op) (ty : TypeId) (pos : String) (after : Array Edge) (j : Nat) (want : Bool) :
    dops P (List.toArray l) R (⟨dst, op, ty, pos, after, some (j, want)⟩ :: r) f S = dguardT (gtmp l j) f want (dopF P f S ty op (dnext P (List.toArray l) R r f dst)) (dskip P (List.toArray l) R r f dst S) := by
  rw [← gtmp_eq]; rfl
def onValS (o : Option (Prop × D)) (K : D → St → Prop) (S : St) : Prop := match o with
  | some (c, d) => c ∧ K d S
  | none => False
theorem onValS_some (c : Prop) (d : D) (K : D → St → Prop) : onValS (some (c, d)) K S = (c ∧ K d S) := Eq.trans (Eq.refl _) (Eq.refl _)
theorem onVal_some (c : Prop) (d : D) (K : D → Prop) : onVal (some (c, d)) K = (c ∧ K d) := Eq.trans (Eq.refl _) (Eq.refl _)
theorem dop_move {ty : TypeId} {K : D → St → Prop} (x : Operand) : dop P f S ty (.move x) K = onValS (dval P f S ty (.move x)) K S := by
  unfold dop; exact Eq.trans (Eq.refl _) (Eq.refl _)
theorem dop_assign {ty : TypeId} {K : D → St → Prop} (x : Operand) : dop P f S ty (.assign x) K = onValS (dval P f S ty (.assign x)) K S := by
  unfold dop; exact Eq.trans (Eq.refl _) (Eq.refl _)
theorem dop_pick {ty : TypeId} {K : D → St → Prop} (c x y : Operand) : dop P f S ty (.pick c x y) K = onValS (dval P f S ty (.pick c x y)) K S := by
  unfold dop; exact Eq.trans (Eq.refl _) (Eq.refl _)
theorem dop_load {ty : TypeId} {K : D → St → Prop} (t : TypeId) (x : Operand) : dop P f S ty (.load t x) K = onValS (dval P f S ty (.load t x)) K S := by
  unfold dop; exact Eq.trans (Eq.refl _) (Eq.refl _)
theorem dop_fieldAddr {ty : TypeId} {K : D → St → Prop} (t : TypeId) (x : Operand) (i : Nat) : dop P f S ty (.fieldAddr t x i) K = onValS (dval P f S ty (.fieldAddr t x i)) K S := by
  unfold dop; exact Eq.trans (Eq.refl _) (Eq.refl _)
theorem dop_field {ty : TypeId} {K : D → St → Prop} (t : TypeId) (x : Operand) (i : Nat) : dop P f S ty (.field t x i) K = onValS (dval P f S ty (.field t x i)) K S := by
  unfold dop; exact Eq.trans (Eq.refl _) (Eq.refl _)
theorem dop_indexAddr {ty : TypeId} {K : D → St → Prop} (t : TypeId) (x i : Operand) : dop P f S ty (.indexAddr t x i) K = onValS (dval P f S ty (.indexAddr t x i)) K S := by
  unfold dop; exact Eq.trans (Eq.refl _) (Eq.refl _)
theorem dop_index {ty : TypeId} {K : D → St → Prop} (t : TypeId) (x i : Operand) : dop P f S ty (.index t x i) K = onValS (dval P f S ty (.index t x i)) K S := by
  unfold dop; exact Eq.trans (Eq.refl _) (Eq.refl _)
theorem dop_extract {ty : TypeId} {K : D → St → Prop} (x : Operand) (i : Nat) : dop P f S ty (.extract x i) K = onValS (dval P f S ty (.extract x i)) K S := by
  unfold dop; exact Eq.trans (Eq.refl _) (Eq.refl _)
theorem dop_makeFunc {ty : TypeId} {K : D → St → Prop} (fn : Fn) (fs cs : Array Operand) : dop P f S ty (.makeFunc fn fs cs) K = onValS (dval P f S ty (.makeFunc fn fs cs)) K S := by
  unfold dop; exact Eq.trans (Eq.refl _) (Eq.refl _)
theorem dop_makeInterface {ty : TypeId} {K : D → St → Prop} (t : TypeId) (x : Operand) : dop P f S ty (.makeInterface t x) K = onValS (dval P f S ty (.makeInterface t x)) K S := by
  unfold dop; exact Eq.trans (Eq.refl _) (Eq.refl _)
theorem dop_nilCheck {ty : TypeId} {K : D → St → Prop} (x : Operand) : dop P f S ty (.nilCheck x) K = onValS (dval P f S ty (.nilCheck x)) K S := by
  unfold dop; exact Eq.trans (Eq.refl _) (Eq.refl _)
theorem dop_slice {ty : TypeId} {K : D → St → Prop} (t : TypeId) (x : Operand) (lo hi mx : Option Operand) : dop P f S ty (.slice t x lo hi mx) K = onValS (dval P f S ty (.slice t x lo hi mx)) K S := by
  unfold dop; exact Eq.trans (Eq.refl _) (Eq.refl _)
theorem dop_binOp {ty : TypeId} {K : D → St → Prop} (op : BinOp) (t : TypeId) (x y : Operand) (u : TypeId) : dop P f S ty (.binOp op t x y u) K = onValS (dval P f S ty (.binOp op t x y u)) K S := by
  unfold dop; exact Eq.trans (Eq.refl _) (Eq.refl _)
theorem dop_unOp {ty : TypeId} {K : D → St → Prop} (op : UnOp) (t : TypeId) (x : Operand) : dop P f S ty (.unOp op t x) K = onValS (dval P f S ty (.unOp op t x)) K S := by
  unfold dop; exact Eq.trans (Eq.refl _) (Eq.refl _)
theorem dop_convert {ty : TypeId} {K : D → St → Prop} (s t : TypeId) (x : Operand) : dop P f S ty (.convert s t x) K = onValS (dval P f S ty (.convert s t x)) K S := by
  unfold dop; exact Eq.trans (Eq.refl _) (Eq.refl _)
theorem dop_b_len {ty : TypeId} {K : D → St → Prop} (args : Array Operand) (ts : Array TypeId) : dop P f S ty (.call ⟨.builtin .len, args, ts⟩) K = onValS (dval P f S ty (.call ⟨.builtin .len, args, ts⟩)) K S := by
  unfold dop; exact Eq.trans (Eq.refl _) (Eq.refl _)
theorem dop_b_cap {ty : TypeId} {K : D → St → Prop} (args : Array Operand) (ts : Array TypeId) : dop P f S ty (.call ⟨.builtin .cap, args, ts⟩) K = onValS (dval P f S ty (.call ⟨.builtin .cap, args, ts⟩)) K S := by
  unfold dop; exact Eq.trans (Eq.refl _) (Eq.refl _)
theorem dop_b_min {ty : TypeId} {K : D → St → Prop} (args : Array Operand) (ts : Array TypeId) : dop P f S ty (.call ⟨.builtin .min, args, ts⟩) K = onValS (dval P f S ty (.call ⟨.builtin .min, args, ts⟩)) K S := by
  unfold dop; exact Eq.trans (Eq.refl _) (Eq.refl _)
theorem dop_b_max {ty : TypeId} {K : D → St → Prop} (args : Array Operand) (ts : Array TypeId) : dop P f S ty (.call ⟨.builtin .max, args, ts⟩) K = onValS (dval P f S ty (.call ⟨.builtin .max, args, ts⟩)) K S := by
  unfold dop; exact Eq.trans (Eq.refl _) (Eq.refl _)
theorem dop_buildSlice {ty : TypeId} {K : D → St → Prop} (t : TypeId) (n : Nat) (ps : Array (Nat × Operand)) : dop P f S ty (.buildSlice t n ps) K = onValS (dnew P f S (.buildSlice t n ps)) K S := by
  unfold dop; exact Eq.trans (Eq.refl _) (Eq.refl _)
theorem dop_build {ty : TypeId} {K : D → St → Prop} (t : TypeId) (ps : Array (Nat × Operand)) : dop P f S ty (.build t ps) K = onValS (dnew P f S (.build t ps)) K S := by
  unfold dop; exact Eq.trans (Eq.refl _) (Eq.refl _)
theorem dop_alloc {ty : TypeId} {K : D → St → Prop} (t : TypeId) : dop P f S ty (.alloc t) K = (zeroOk P t = true ∧ K (.loc S.next 0) (S.add (.box t (zeroD P t)))) := Eq.trans (Eq.refl _) (Eq.refl _)
theorem dop_box {ty : TypeId} {K : D → St → Prop} (t : TypeId) (x : Operand) : dop P f S ty (.box t x) K = ((ev f x).okCell = true ∧ K (.loc S.next 0) (S.add (.box t (ev f x).cells))) := Eq.trans (Eq.refl _) (Eq.refl _)
def dstore (P : Program) (S : St) (t : TypeId) (x y : D) (K : D → St → Prop) : Prop := match x with
  | .loc k off => match S.ob k with
    | some (.box t' cs) => y.okCell = true ∧ (P.info? t).isSome = true ∧ y.width = szOf P t ∧ off + szOf P t ≤ cs.length ∧ K undefD (S.set k (.box t' (splice cs off y.cells)))
    | _ => False
  | _ => False
theorem dop_store {ty : TypeId} {K : D → St → Prop} (t : TypeId) (x y : Operand) : dop P f S ty (.store t x y) K = dstore P S t (ev f x) (ev f y) K := Eq.trans (Eq.refl _) (Eq.refl _)
def dcall (P : Program) (S : St) (x : D) (args : List D) (K : D → St → Prop) : Prop := match x with
  | .fn (.func g) fs cs => DCalls P g (fs ++ args ++ cs) S K
  | _ => False
theorem dcall_fn (g : FuncId) (fs args cs : List D) (K : D → St → Prop) : dcall P S (.fn (.func g) fs cs) args K = DCalls P g (fs ++ args ++ cs) S K := Eq.trans (Eq.refl _) (Eq.refl _)
theorem dop_call {ty : TypeId} {K : D → St → Prop} (x : Operand) (args : List Operand) (ts : Array TypeId) : dop P f S ty (.call ⟨.value x, List.toArray args, ts⟩) K = dcall P S (ev f x) (args.map (ev f)) K := Eq.trans (Eq.refl _) (Eq.refl _)
def dappend (P : Program) (S : St) (t tx : TypeId) (x y : D) (K : D → St → Prop) : Prop := match x, y with
  | .sl own es, .sl _ es2 => match elT P t with
    | some e => (elT P tx).isSome = true ∧ zeroT P e = true ∧ (∀ d ∈ es, d.width = szOf P e) ∧ (∀ d ∈ es2, d.width = szOf P e) ∧ (match own with | .full => True | .row g => S.ob g = some (.row e es.length) | .no => False) ∧ es.length + es2.length ≤ 140737488355328 ∧ (es.length + es2.length) * bytesOf P e ≤ 140737488355328 ∧ K (.sl (.row S.next) (es ++ es2)) (S.grow own e (es.length + es2.length))
    | none => False
  | _, _ => False
theorem dop_append {ty : TypeId} {K : D → St → Prop} (x y : Operand) (t tx : TypeId) : dop P f S ty (.call ⟨.builtin .append, #[x, y], #[t, tx]⟩) K = dappend P S t tx (ev f x) (ev f y) K := by
  simp only [dop, List.map_cons, List.map_nil]
  generalize ev f x = a
  generalize ev f y = b
  cases a <;> cases b <;> rfl
theorem list_of_array {α : Type} (l : List α) : (List.toArray l).toList = l := Eq.trans (Eq.refl _) (Eq.refl _)
theorem add_next (S : St) (o : Ob) : (S.add o).next = S.next + 1 := Eq.trans (Eq.refl _) (Eq.refl _)
theorem add_ob (S : St) (o : Ob) (k : Nat) : (S.add o).ob k = if k = S.next then some o else S.ob k := Eq.trans (Eq.refl _) (Eq.refl _)
theorem set_next (S : St) (k : Nat) (o : Ob) : (S.set k o).next = S.next := Eq.trans (Eq.refl _) (Eq.refl _)
theorem set_ob (S : St) (k j : Nat) (o : Ob) : (S.set k o).ob j = if j = k then some o else S.ob j := Eq.trans (Eq.refl _) (Eq.refl _)
theorem grow_next (S : St) (own : Own) (e : TypeId) (n : Nat) : (S.grow own e n).next = S.next + 1 := by cases own <;> rfl
theorem grow_full_ob (S : St) (e : TypeId) (n k : Nat) : (S.grow .full e n).ob k = if k = S.next then some (.row e n) else S.ob k := Eq.trans (Eq.refl _) (Eq.refl _)
theorem grow_row_ob (S : St) (g : Nat) (e : TypeId) (n k : Nat) : (S.grow (.row g) e n).ob k = if k = S.next then some (.row e n) else if k = g then none else S.ob k := Eq.trans (Eq.refl _) (Eq.refl _)
/-- A round's end: what holds at its head holds again, some names given up. -/
def dround (I : Fm → St → Prop) (μ : Fm → St → Nat) (n : Nat) (f' : Fm) (S' : St) : Prop := ∃ S'' : St, (S''.next = S'.next ∧ ∀ k o, S''.ob k = some o → S'.ob k = some o) ∧ I f' S'' ∧ μ f' S'' < n
theorem dloop_mk {body : DQ → Fm → St → Prop} (I : Fm → St → Prop) (μ : Fm → St → Nat) (h0 : I f S)
    (hr : ∀ g T, I g T → body (DQ.then (dround I μ (μ g T)) Q) g T) : DLoop body Q f S := ⟨I, μ, h0, hr⟩
/-- At the very state that it comes to. -/
theorem round_end {I : Fm → St → Prop} {μ : Fm → St → Nat} {n : Nat} {f' : Fm} {S' : St} (h : I f' S') (hm : μ f' S' < n) : dround I μ n f' S' := ⟨S', ⟨rfl, fun _ _ h => h⟩, h, hm⟩
/-- The names of the round are given up. -/
theorem round_back {I : Fm → St → Prop} {μ : Fm → St → Nat} {n : Nat} {f' : Fm} {S' : St} (ob : Nat → Option Ob) (hs : ∀ k o, ob k = some o → S'.ob k = some o) (h : I f' ⟨S'.next, ob⟩) (hm : μ f' ⟨S'.next, ob⟩ < n) : dround I μ n f' S' := ⟨⟨S'.next, ob⟩, ⟨rfl, hs⟩, h, hm⟩
/-- What is done behind a loop, apart. -/
theorem loop_cut {c : Code} {id : Nat} {k : Fm → St → Prop} (J : Fm → St → Prop) (h : DLoop (dwp P c) (DQ.block id (DQ.then J Q)) f S) (hk : ∀ f' S', J f' S' → k f' S') : DLoop (dwp P c) (DQ.block id (DQ.then k Q)) f S :=
  dwp_mono (.loop c) (fun e f' S' hq => by
    cases e with
    | normal => exact hk _ _ hq
    | ret => exact hq
    | exit i =>
      simp only [DQ.block] at *
      cases hb : Nat.beq i id with
      | true => rw [hb] at hq; exact hk _ _ hq
      | false => rw [hb] at hq; exact hq) h
def slotN (d : D) : Nat := match d with
  | .v (.int _ q) => q.toNat
  | _ => 0
theorem slotN_int (k : IntKind) (n : Nat) : slotN (.v (.int k n)) = n := by simp [slotN]
theorem slotN_succ (k : IntKind) (n : Nat) : slotN (.v (.int k ((n : Int) + 1))) = n + 1 := by simp [slotN]
theorem getD_map {α : Type} (g : α → D) (l : List α) (i : Nat) (h : i < l.length) : (l.map g).getD i undefD = g l[i] := by simp [List.getD, h]
/-! Ends. -/
theorem pfin_ret (t : Tmp) (S' : St) (d : D) : DQ.pfin P [.tmp t] S d .ret f S' = PFin S S' (f t) d := by
  simp [DQ.pfin, dresL, dres, onVal, one]
theorem pfin_normal (t : Tmp) (S' : St) (d : D) : DQ.pfin P [.tmp t] S d .normal f S' = PFin S S' (f t) d := by
  simp [DQ.pfin, dresL, dres, onVal, one]
theorem pfin_ret2 (t u : Tmp) (S' : St) (d : D) : DQ.pfin P [.tmp t, .tmp u] S d .ret f S' = PFin S S' (.tup [f t, f u]) d := by
  simp [DQ.pfin, dresL, dres, onVal, one]
theorem pfin_normal2 (t u : Tmp) (S' : St) (d : D) : DQ.pfin P [.tmp t, .tmp u] S d .normal f S' = PFin S S' (.tup [f t, f u]) d := by
  simp [DQ.pfin, dresL, dres, onVal, one]
end

/-! A region that draws its order. -/
section
variable {P : Program} {f : Fm} {S : St}
def hnext (P : Program) (ops : Array Oper) (S : St) (R : Fm → Prop) (r : List Oper) (f : Fm) (dst : Option Tmp) (d : D) : Prop := dhead P ops S R r (put f dst d)
theorem hnext_eq (ops : Array Oper) (R : Fm → Prop) (r : List Oper) (dst : Option Tmp) (d : D) : hnext P ops S R r f dst d = dhead P ops S R r (put f dst d) := Eq.trans (Eq.refl _) (Eq.refl _)
def hskip (P : Program) (ops : Array Oper) (S : St) (R : Fm → Prop) (r : List Oper) (f : Fm) (dst : Option Tmp) : Prop := dhead P ops S R r (put f dst undefD)
def dquietF (P : Program) (f : Fm) (S : St) (ty : TypeId) (op : Op) (K : D → Prop) : Prop := dquiet P f S ty op K
def dtail (P : Program) (l : List Oper) (R : Fm → St → Prop) (n : Nat) (S : St) (f : Fm) : Prop := dops P (List.toArray l) R (l.drop n) f S
theorem dtail_eq (l : List Oper) (R : Fm → St → Prop) (n : Nat) : dtail P l R n S f = dops P (List.toArray l) R (l.drop n) f S := Eq.trans (Eq.refl _) (Eq.refl _)
theorem ddraw_mk (n : Nat) {l : List Oper} {R : Fm → St → Prop} (h : drawOk l n = true) (k : dhead P (List.toArray (l.take n)) S (dtail P l R n S) (l.take n) f) : ddraw P l R f S := ⟨n, h, k⟩
theorem dhead_nil (ops : Array Oper) (R : Fm → Prop) : dhead P ops S R [] f = R f := Eq.trans (Eq.refl _) (Eq.refl _)
theorem dhead_plain (ops : Array Oper) (R : Fm → Prop) (r : List Oper) (dst : Option Tmp) (op : Op) (ty : TypeId) (pos : String) (after : Array Edge) : dhead P ops S R (⟨dst, op, ty, pos, after, none⟩ :: r) f = dquiet P f S ty op (hnext P ops S R r f dst) := Eq.trans (Eq.refl _) (Eq.refl _)
theorem dhead_guard (l : List Oper) (R : Fm → Prop) (r : List Oper) (dst : Option Tmp) (op : Op) (ty : TypeId) (pos : String) (after : Array Edge) (j : Nat) (want : Bool) :
    dhead P (List.toArray l) S R (⟨dst, op, ty, pos, after, some (j, want)⟩ :: r) f = dguardT (gtmp l j) f want (dquietF P f S ty op (hnext P (List.toArray l) S R r f dst)) (hskip P (List.toArray l) S R r f dst) := by
  rw [← gtmp_eq]; rfl
section
variable {y n : Prop} {ty : TypeId} {op : Op} {K : D → Prop} {ops : Array Oper} {R : Fm → Prop} {r : List Oper} {dst : Option Tmp}
theorem hg_tt : dguard (.v (.bool true)) true (dquietF P f S ty op K) n = dquiet P f S ty op K := by simp [dguard, dquietF]
theorem hg_ff : dguard (.v (.bool false)) false (dquietF P f S ty op K) n = dquiet P f S ty op K := by simp [dguard, dquietF]
theorem hg_tf : dguard (.v (.bool true)) false y (hskip P ops S R r f dst) = dhead P ops S R r (put f dst undefD) := by simp [dguard, hskip]
theorem hg_ft : dguard (.v (.bool false)) true y (hskip P ops S R r f dst) = dhead P ops S R r (put f dst undefD) := by simp [dguard, hskip]
theorem hg_no (want : Bool) : dguard undefD want y (hskip P ops S R r f dst) = dhead P ops S R r (put f dst undefD) := Eq.trans (Eq.refl _) (Eq.refl _)
theorem hg_mk {b want : Bool} (h1 : b = want → dquiet P f S ty op K) (h2 : b = !want → dhead P ops S R r (put f dst undefD)) : dguard (.v (.bool b)) want (dquietF P f S ty op K) (hskip P ops S R r f dst) := ⟨h1, h2⟩
end
def dqcall (P : Program) (S : St) (x : D) (args : List D) (K : D → Prop) : Prop := match x with
  | .fn (.func g) fs cs => ∃ d, DAt P g (fs ++ args ++ cs) S d ∧ K d
  | _ => False
def dqgo (P : Program) (S : St) (g : FuncId) (args : List D) (K : D → Prop) : Prop := ∃ d, DAt P g args S d ∧ K d
theorem dqcall_fn (g : FuncId) (fs args cs : List D) (K : D → Prop) : dqcall P S (.fn (.func g) fs cs) args K = dqgo P S g (fs ++ args ++ cs) K := Eq.trans (Eq.refl _) (Eq.refl _)
theorem dqgo_mk {g : FuncId} {args : List D} {K : D → Prop} {d : D} (h : DPure P g args d) (k : K d) : dqgo P S g args K := ⟨d, h S, k⟩
theorem dq_call {ty : TypeId} {K : D → Prop} (x : Operand) (args : List Operand) (ts : Array TypeId) : dquiet P f S ty (.call ⟨.value x, List.toArray args, ts⟩) K = dqcall P S (ev f x) (args.map (ev f)) K := Eq.trans (Eq.refl _) (Eq.refl _)
theorem dq_append {ty : TypeId} {K : D → Prop} (args : Array Operand) (ts : Array TypeId) : dquiet P f S ty (.call ⟨.builtin .append, args, ts⟩) K = onVal2 (dnew P f S (.call ⟨.builtin .append, args, ts⟩)) (dval P f S ty (.call ⟨.builtin .append, args, ts⟩)) K := Eq.trans (Eq.refl _) (Eq.refl _)
theorem onVal2_some (c : Prop) (d : D) (o : Option (Prop × D)) (K : D → Prop) : onVal2 (some (c, d)) o K = (c ∧ K d) := Eq.trans (Eq.refl _) (Eq.refl _)
theorem dq_buildSlice {ty : TypeId} {K : D → Prop} (t : TypeId) (n : Nat) (ps : Array (Nat × Operand)) : dquiet P f S ty (.buildSlice t n ps) K = onVal2 (dnew P f S (.buildSlice t n ps)) (dval P f S ty (.buildSlice t n ps)) K := Eq.trans (Eq.refl _) (Eq.refl _)
theorem dq_build {ty : TypeId} {K : D → Prop} (t : TypeId) (ps : Array (Nat × Operand)) : dquiet P f S ty (.build t ps) K = onVal2 (dnew P f S (.build t ps)) (dval P f S ty (.build t ps)) K := Eq.trans (Eq.refl _) (Eq.refl _)
theorem dq_move {ty : TypeId} {K : D → Prop} (x : Operand) : dquiet P f S ty (.move x) K = onVal (dval P f S ty (.move x)) K := Eq.trans (Eq.refl _) (Eq.refl _)
theorem dq_assign {ty : TypeId} {K : D → Prop} (x : Operand) : dquiet P f S ty (.assign x) K = onVal (dval P f S ty (.assign x)) K := Eq.trans (Eq.refl _) (Eq.refl _)
theorem dq_pick {ty : TypeId} {K : D → Prop} (c x y : Operand) : dquiet P f S ty (.pick c x y) K = onVal (dval P f S ty (.pick c x y)) K := Eq.trans (Eq.refl _) (Eq.refl _)
theorem dq_load {ty : TypeId} {K : D → Prop} (t : TypeId) (x : Operand) : dquiet P f S ty (.load t x) K = onVal (dval P f S ty (.load t x)) K := Eq.trans (Eq.refl _) (Eq.refl _)
theorem dq_fieldAddr {ty : TypeId} {K : D → Prop} (t : TypeId) (x : Operand) (i : Nat) : dquiet P f S ty (.fieldAddr t x i) K = onVal (dval P f S ty (.fieldAddr t x i)) K := Eq.trans (Eq.refl _) (Eq.refl _)
theorem dq_field {ty : TypeId} {K : D → Prop} (t : TypeId) (x : Operand) (i : Nat) : dquiet P f S ty (.field t x i) K = onVal (dval P f S ty (.field t x i)) K := Eq.trans (Eq.refl _) (Eq.refl _)
theorem dq_indexAddr {ty : TypeId} {K : D → Prop} (t : TypeId) (x i : Operand) : dquiet P f S ty (.indexAddr t x i) K = onVal (dval P f S ty (.indexAddr t x i)) K := Eq.trans (Eq.refl _) (Eq.refl _)
theorem dq_index {ty : TypeId} {K : D → Prop} (t : TypeId) (x i : Operand) : dquiet P f S ty (.index t x i) K = onVal (dval P f S ty (.index t x i)) K := Eq.trans (Eq.refl _) (Eq.refl _)
theorem dq_extract {ty : TypeId} {K : D → Prop} (x : Operand) (i : Nat) : dquiet P f S ty (.extract x i) K = onVal (dval P f S ty (.extract x i)) K := Eq.trans (Eq.refl _) (Eq.refl _)
theorem dq_makeFunc {ty : TypeId} {K : D → Prop} (fn : Fn) (fs cs : Array Operand) : dquiet P f S ty (.makeFunc fn fs cs) K = onVal (dval P f S ty (.makeFunc fn fs cs)) K := Eq.trans (Eq.refl _) (Eq.refl _)
theorem dq_makeInterface {ty : TypeId} {K : D → Prop} (t : TypeId) (x : Operand) : dquiet P f S ty (.makeInterface t x) K = onVal (dval P f S ty (.makeInterface t x)) K := Eq.trans (Eq.refl _) (Eq.refl _)
theorem dq_nilCheck {ty : TypeId} {K : D → Prop} (x : Operand) : dquiet P f S ty (.nilCheck x) K = onVal (dval P f S ty (.nilCheck x)) K := Eq.trans (Eq.refl _) (Eq.refl _)
theorem dq_slice {ty : TypeId} {K : D → Prop} (t : TypeId) (x : Operand) (lo hi mx : Option Operand) : dquiet P f S ty (.slice t x lo hi mx) K = onVal (dval P f S ty (.slice t x lo hi mx)) K := Eq.trans (Eq.refl _) (Eq.refl _)
theorem dq_binOp {ty : TypeId} {K : D → Prop} (op : BinOp) (t : TypeId) (x y : Operand) (u : TypeId) : dquiet P f S ty (.binOp op t x y u) K = onVal (dval P f S ty (.binOp op t x y u)) K := Eq.trans (Eq.refl _) (Eq.refl _)
theorem dq_unOp {ty : TypeId} {K : D → Prop} (op : UnOp) (t : TypeId) (x : Operand) : dquiet P f S ty (.unOp op t x) K = onVal (dval P f S ty (.unOp op t x)) K := Eq.trans (Eq.refl _) (Eq.refl _)
theorem dq_convert {ty : TypeId} {K : D → Prop} (s t : TypeId) (x : Operand) : dquiet P f S ty (.convert s t x) K = onVal (dval P f S ty (.convert s t x)) K := Eq.trans (Eq.refl _) (Eq.refl _)
theorem dq_b_len {ty : TypeId} {K : D → Prop} (args : Array Operand) (ts : Array TypeId) : dquiet P f S ty (.call ⟨.builtin .len, args, ts⟩) K = onVal (dval P f S ty (.call ⟨.builtin .len, args, ts⟩)) K := Eq.trans (Eq.refl _) (Eq.refl _)
theorem dq_b_cap {ty : TypeId} {K : D → Prop} (args : Array Operand) (ts : Array TypeId) : dquiet P f S ty (.call ⟨.builtin .cap, args, ts⟩) K = onVal (dval P f S ty (.call ⟨.builtin .cap, args, ts⟩)) K := Eq.trans (Eq.refl _) (Eq.refl _)
theorem dq_b_min {ty : TypeId} {K : D → Prop} (args : Array Operand) (ts : Array TypeId) : dquiet P f S ty (.call ⟨.builtin .min, args, ts⟩) K = onVal (dval P f S ty (.call ⟨.builtin .min, args, ts⟩)) K := Eq.trans (Eq.refl _) (Eq.refl _)
theorem dq_b_max {ty : TypeId} {K : D → Prop} (args : Array Operand) (ts : Array TypeId) : dquiet P f S ty (.call ⟨.builtin .max, args, ts⟩) K = onVal (dval P f S ty (.call ⟨.builtin .max, args, ts⟩)) K := Eq.trans (Eq.refl _) (Eq.refl _)
end
theorem width_len (d : D) : d.width = d.cells.length := Eq.trans (Eq.refl _) (Eq.refl _)
theorem cells_agg_ (cs : List D) : (D.agg cs).cells = cs := Eq.trans (Eq.refl _) (Eq.refl _)
theorem cells_v_ (x : Value) : (D.v x).cells = [D.v x] := Eq.trans (Eq.refl _) (Eq.refl _)
theorem cells_tup_ (cs : List D) : (D.tup cs).cells = [D.tup cs] := Eq.trans (Eq.refl _) (Eq.refl _)
theorem cells_fn_ (g : Fn) (fs cs : List D) : (D.fn g fs cs).cells = [D.fn g fs cs] := Eq.trans (Eq.refl _) (Eq.refl _)
theorem okCell_fn_ (g : Fn) (fs cs : List D) : (D.fn g fs cs).okCell = true := Eq.trans (Eq.refl _) (Eq.refl _)
theorem cells_ifc_ (t : TypeId) (d : D) : (D.ifc t d).cells = [D.ifc t d] := Eq.trans (Eq.refl _) (Eq.refl _)
theorem okCell_ifc_ (t : TypeId) (d : D) : (D.ifc t d).okCell = true := Eq.trans (Eq.refl _) (Eq.refl _)
theorem cells_loc_ (k o : Nat) : (D.loc k o).cells = [D.loc k o] := Eq.trans (Eq.refl _) (Eq.refl _)
theorem okCell_loc_ (k o : Nat) : (D.loc k o).okCell = true := Eq.trans (Eq.refl _) (Eq.refl _)
theorem cells_rd_ (cs : List D) (o : Nat) : (D.rd cs o).cells = [D.rd cs o] := Eq.trans (Eq.refl _) (Eq.refl _)
theorem okCell_rd_ (cs : List D) (o : Nat) : (D.rd cs o).okCell = true := Eq.trans (Eq.refl _) (Eq.refl _)
theorem cells_sl_ (o : Own) (es : List D) : (D.sl o es).cells = [D.sl o es] := Eq.trans (Eq.refl _) (Eq.refl _)
theorem okCell_sl_ (o : Own) (es : List D) : (D.sl o es).okCell = true := Eq.trans (Eq.refl _) (Eq.refl _)
theorem okCell_agg_ (cs : List D) : (D.agg cs).okCell = true := Eq.trans (Eq.refl _) (Eq.refl _)
theorem okCell_bool_ (b : Bool) : (D.v (.bool b)).okCell = true := Eq.trans (Eq.refl _) (Eq.refl _)
theorem okCell_int_ (k : IntKind) (n : Int) : (D.v (.int k n)).okCell = true := Eq.trans (Eq.refl _) (Eq.refl _)
theorem okCell_string_ (s : ByteArray) : (D.v (.string s)).okCell = true := Eq.trans (Eq.refl _) (Eq.refl _)
theorem okCell_pointer_ (x : Option Addr) : (D.v (.pointer x)).okCell = true := Eq.trans (Eq.refl _) (Eq.refl _)
theorem okCell_slice_ (x : Option Addr) (n m : Nat) : (D.v (.slice x n m)).okCell = true := Eq.trans (Eq.refl _) (Eq.refl _)
theorem okCell_nilFunc_  : (D.v (.nilFunc)).okCell = true := Eq.trans (Eq.refl _) (Eq.refl _)
theorem okCell_nilIface_  : (D.v (.nilIface)).okCell = true := Eq.trans (Eq.refl _) (Eq.refl _)
theorem okCell_float_ (k : FloatKind) (n : Nat) : (D.v (.float k n)).okCell = true := Eq.trans (Eq.refl _) (Eq.refl _)
theorem okCell_map_ (r : Option Nat) : (D.v (.map r)).okCell = true := Eq.trans (Eq.refl _) (Eq.refl _)
theorem okCell_func_ (g : Fn) (x y : Array Value) : (D.v (.func g x y)).okCell = true := Eq.trans (Eq.refl _) (Eq.refl _)
theorem okCell_iface_ (t : TypeId) (x : Value) : (D.v (.iface t x)).okCell = true := Eq.trans (Eq.refl _) (Eq.refl _)
attribute [go_sem] width_len cells_agg_ cells_v_ cells_tup_ cells_fn_ okCell_fn_ cells_ifc_ okCell_ifc_ cells_loc_ okCell_loc_ cells_rd_ okCell_rd_ cells_sl_ okCell_sl_ okCell_agg_ okCell_bool_ okCell_int_ okCell_string_ okCell_pointer_ okCell_slice_ okCell_nilFunc_ okCell_nilIface_ okCell_float_ okCell_map_ okCell_func_ okCell_iface_
attribute [go_sem] hnext_eq dtail_eq dhead_nil dhead_plain dhead_guard hg_tt hg_ff hg_tf hg_ft hg_no dqcall_fn dq_call dq_append onVal2_some onVal_some dq_buildSlice dq_build dq_move dq_assign dq_pick dq_load dq_fieldAddr dq_field dq_indexAddr dq_index dq_extract dq_makeFunc dq_makeInterface dq_nilCheck dq_slice dq_binOp dq_unOp dq_convert dq_b_len dq_b_cap dq_b_min dq_b_max
attribute [go_sem] decide_true decide_false pureRun_pure Bool.not_true Bool.not_false Bool.true_or Bool.false_or Bool.or_true Bool.or_false Bool.true_and Bool.false_and Bool.and_true Bool.and_false dg_tt dg_ff dg_tf dg_ft dg_no dIf_t dIf_f slotN_int slotN_succ List.length_map Int.toNat_natCast dwp_skip dwp_label dwp_exit dwp_ret dwp_seq dwp_block dwp_loop dwp_cond dwp_region dwp_draw then_normal then_exit then_ret block_normal block_ret block_eq block_ne dnext_eq gtmp_zero gtmp_succ dguardT_some dops_nil dops_plain dops_guard onValS_some dop_move dop_assign dop_pick dop_load dop_fieldAddr dop_field dop_indexAddr dop_index dop_extract dop_makeFunc dop_makeInterface dop_nilCheck dop_slice dop_binOp dop_unOp dop_convert dop_b_len dop_b_cap dop_b_min dop_b_max dop_buildSlice dop_build dop_alloc dop_box dop_store dop_call dop_append dcall_fn put_eq put_ne put_none argF_zero argF_succ argF_nil ofV_int ofV_bool ofV_string ofV_nil ofV_iface ofV_func ofV_ptr bin_add bin_sub bin_mul bin_eql bin_neq bin_lss bin_leq bin_gtr bin_geq bin_seql bin_sneq bin_slss bin_sgtr bin_sleq bin_sgeq un_not un_neg bu_max bu_min add_next add_ob set_next set_ob grow_next grow_full_ob grow_row_ob pfin_ret pfin_normal pfin_ret2 pfin_normal2 list_of_array dstore dappend dval dnew ev rdOk rdVal splice true_and and_true cond_true cond_false List.map_cons List.map_nil List.length_cons List.length_nil List.take_succ_cons List.take_zero List.drop_succ_cons List.drop_zero List.getD_cons_zero List.getD_cons_succ List.cons_append List.nil_append List.append_nil ne_eq not_false_eq_true Nat.zero_add Nat.add_zero Option.map_some
end Go.Proofs.Ytpnjkebjdclkfaa
