/- Texts of a proof, part 4. Conditions: none. -/
import Derived.Test.YtonncfminojejaaDoorK3
import Derived.Test.YtonncfminojejaaDoorProg
import Derived.KernelRfl
import Derived.Test.YtonncfminojejaaDoorRows
import Derived.ChangeSame
import Derived.ChangeVars
import Derived.JoinedOf
import Derived.LaidLaws
import Derived.LaidHandle
import Derived.Stop.Joined
import Derived.Laws.CopyRow
import Derived.Laws.Externs
set_option linter.unusedVariables false
set_option linter.unusedSimpArgs false
namespace Go.Proofs.YtonncfminojejaaDoor

@[go_sem] theorem okT_1 : okT Tryd.prog 1 = true := by kernel_rfl
@[go_sem] theorem szOf_1 : szOf Tryd.prog 1 = 1 := by kernel_rfl
@[go_sem] theorem aggT_1 : aggT Tryd.prog 1 = false := by kernel_rfl
@[go_sem] theorem undS_1 : (Tryd.prog.underlying 1).isSome = true := by kernel_rfl
@[go_sem] theorem infS_1 : (Tryd.prog.info? 1).isSome = true := by kernel_rfl
@[go_sem] theorem ifaceT_1 : ifaceT Tryd.prog 1 = false := by kernel_rfl
@[go_sem] theorem ptrT_1 : ptrT Tryd.prog 1 = false := by kernel_rfl
@[go_sem] theorem zeroT_1 : zeroT Tryd.prog 1 = true := by kernel_rfl
@[go_sem] theorem zeroOk_1 : zeroOk Tryd.prog 1 = true := by kernel_rfl
@[go_sem] theorem bytesOf_1 : bytesOf Tryd.prog 1 = 8 := by kernel_rfl
@[go_sem] theorem zeroD_1 : zeroD Tryd.prog 1 = [.v .nilFunc] := by kernel_rfl
@[go_sem] theorem okT_2 : okT Tryd.prog 2 = true := by kernel_rfl
@[go_sem] theorem szOf_2 : szOf Tryd.prog 2 = 1 := by kernel_rfl
@[go_sem] theorem aggT_2 : aggT Tryd.prog 2 = false := by kernel_rfl
@[go_sem] theorem undS_2 : (Tryd.prog.underlying 2).isSome = true := by kernel_rfl
@[go_sem] theorem infS_2 : (Tryd.prog.info? 2).isSome = true := by kernel_rfl
@[go_sem] theorem ifaceT_2 : ifaceT Tryd.prog 2 = false := by kernel_rfl
@[go_sem] theorem ptrT_2 : ptrT Tryd.prog 2 = false := by kernel_rfl
@[go_sem] theorem zeroT_2 : zeroT Tryd.prog 2 = true := by kernel_rfl
@[go_sem] theorem zeroOk_2 : zeroOk Tryd.prog 2 = true := by kernel_rfl
@[go_sem] theorem bytesOf_2 : bytesOf Tryd.prog 2 = 8 := by kernel_rfl
@[go_sem] theorem zeroD_2 : zeroD Tryd.prog 2 = [.v (.int .i64 0)] := by kernel_rfl
@[go_sem] theorem okT_3 : okT Tryd.prog 3 = true := by kernel_rfl
@[go_sem] theorem szOf_3 : szOf Tryd.prog 3 = 1 := by kernel_rfl
@[go_sem] theorem aggT_3 : aggT Tryd.prog 3 = false := by kernel_rfl
@[go_sem] theorem undS_3 : (Tryd.prog.underlying 3).isSome = true := by kernel_rfl
@[go_sem] theorem infS_3 : (Tryd.prog.info? 3).isSome = true := by kernel_rfl
@[go_sem] theorem ifaceT_3 : ifaceT Tryd.prog 3 = false := by kernel_rfl
@[go_sem] theorem ptrT_3 : ptrT Tryd.prog 3 = false := by kernel_rfl
@[go_sem] theorem zeroT_3 : zeroT Tryd.prog 3 = true := by kernel_rfl
@[go_sem] theorem zeroOk_3 : zeroOk Tryd.prog 3 = true := by kernel_rfl
@[go_sem] theorem bytesOf_3 : bytesOf Tryd.prog 3 = 8 := by kernel_rfl
@[go_sem] theorem zeroD_3 : zeroD Tryd.prog 3 = [.v (.int .i64 0)] := by kernel_rfl
@[go_sem] theorem okT_4 : okT Tryd.prog 4 = true := by kernel_rfl
@[go_sem] theorem szOf_4 : szOf Tryd.prog 4 = 1 := by kernel_rfl
@[go_sem] theorem aggT_4 : aggT Tryd.prog 4 = false := by kernel_rfl
@[go_sem] theorem undS_4 : (Tryd.prog.underlying 4).isSome = true := by kernel_rfl
@[go_sem] theorem infS_4 : (Tryd.prog.info? 4).isSome = true := by kernel_rfl
@[go_sem] theorem ifaceT_4 : ifaceT Tryd.prog 4 = false := by kernel_rfl
@[go_sem] theorem ptrT_4 : ptrT Tryd.prog 4 = false := by kernel_rfl
@[go_sem] theorem zeroT_4 : zeroT Tryd.prog 4 = true := by kernel_rfl
@[go_sem] theorem zeroOk_4 : zeroOk Tryd.prog 4 = true := by kernel_rfl
@[go_sem] theorem bytesOf_4 : bytesOf Tryd.prog 4 = 1 := by kernel_rfl
@[go_sem] theorem zeroD_4 : zeroD Tryd.prog 4 = [.v (.bool false)] := by kernel_rfl
@[go_sem] theorem okT_5 : okT Tryd.prog 5 = true := by kernel_rfl
@[go_sem] theorem szOf_5 : szOf Tryd.prog 5 = 1 := by kernel_rfl
@[go_sem] theorem aggT_5 : aggT Tryd.prog 5 = false := by kernel_rfl
@[go_sem] theorem undS_5 : (Tryd.prog.underlying 5).isSome = true := by kernel_rfl
@[go_sem] theorem infS_5 : (Tryd.prog.info? 5).isSome = true := by kernel_rfl
@[go_sem] theorem ifaceT_5 : ifaceT Tryd.prog 5 = false := by kernel_rfl
@[go_sem] theorem ptrT_5 : ptrT Tryd.prog 5 = false := by kernel_rfl
@[go_sem] theorem zeroT_5 : zeroT Tryd.prog 5 = true := by kernel_rfl
@[go_sem] theorem zeroOk_5 : zeroOk Tryd.prog 5 = true := by kernel_rfl
@[go_sem] theorem bytesOf_5 : bytesOf Tryd.prog 5 = 1 := by kernel_rfl
@[go_sem] theorem zeroD_5 : zeroD Tryd.prog 5 = [.v (.int .u8 0)] := by kernel_rfl
@[go_sem] theorem okT_6 : okT Tryd.prog 6 = true := by kernel_rfl
@[go_sem] theorem szOf_6 : szOf Tryd.prog 6 = 1 := by kernel_rfl
@[go_sem] theorem aggT_6 : aggT Tryd.prog 6 = false := by kernel_rfl
@[go_sem] theorem undS_6 : (Tryd.prog.underlying 6).isSome = true := by kernel_rfl
@[go_sem] theorem infS_6 : (Tryd.prog.info? 6).isSome = true := by kernel_rfl
@[go_sem] theorem ifaceT_6 : ifaceT Tryd.prog 6 = false := by kernel_rfl
@[go_sem] theorem ptrT_6 : ptrT Tryd.prog 6 = false := by kernel_rfl
@[go_sem] theorem zeroT_6 : zeroT Tryd.prog 6 = true := by kernel_rfl
@[go_sem] theorem zeroOk_6 : zeroOk Tryd.prog 6 = true := by kernel_rfl
@[go_sem] theorem bytesOf_6 : bytesOf Tryd.prog 6 = 1 := by kernel_rfl
@[go_sem] theorem zeroD_6 : zeroD Tryd.prog 6 = [.v (.int .u8 0)] := by kernel_rfl
@[go_sem] theorem okT_7 : okT Tryd.prog 7 = true := by kernel_rfl
@[go_sem] theorem szOf_7 : szOf Tryd.prog 7 = 4 := by kernel_rfl
@[go_sem] theorem aggT_7 : aggT Tryd.prog 7 = true := by kernel_rfl
@[go_sem] theorem undS_7 : (Tryd.prog.underlying 7).isSome = true := by kernel_rfl
@[go_sem] theorem infS_7 : (Tryd.prog.info? 7).isSome = true := by kernel_rfl
@[go_sem] theorem ifaceT_7 : ifaceT Tryd.prog 7 = false := by kernel_rfl
@[go_sem] theorem ptrT_7 : ptrT Tryd.prog 7 = false := by kernel_rfl
@[go_sem] theorem zeroT_7 : zeroT Tryd.prog 7 = true := by kernel_rfl
@[go_sem] theorem zeroOk_7 : zeroOk Tryd.prog 7 = true := by kernel_rfl
@[go_sem] theorem bytesOf_7 : bytesOf Tryd.prog 7 = 24 := by kernel_rfl
@[go_sem] theorem zeroD_7 : zeroD Tryd.prog 7 = [.v (.int .i64 0), .v (.int .i64 0), .v (.bool false), .v (.int .u8 0)] := by kernel_rfl
@[go_sem] theorem fld_7_0 : fld Tryd.prog 7 0 = some (0, 2) := by kernel_rfl
@[go_sem] theorem fld_7_1 : fld Tryd.prog 7 1 = some (1, 3) := by kernel_rfl
@[go_sem] theorem fld_7_2 : fld Tryd.prog 7 2 = some (2, 4) := by kernel_rfl
@[go_sem] theorem fld_7_3 : fld Tryd.prog 7 3 = some (3, 6) := by kernel_rfl
@[go_sem] theorem okT_8 : okT Tryd.prog 8 = true := by kernel_rfl
@[go_sem] theorem szOf_8 : szOf Tryd.prog 8 = 4 := by kernel_rfl
@[go_sem] theorem aggT_8 : aggT Tryd.prog 8 = true := by kernel_rfl
@[go_sem] theorem undS_8 : (Tryd.prog.underlying 8).isSome = true := by kernel_rfl
@[go_sem] theorem infS_8 : (Tryd.prog.info? 8).isSome = true := by kernel_rfl
@[go_sem] theorem ifaceT_8 : ifaceT Tryd.prog 8 = false := by kernel_rfl
@[go_sem] theorem ptrT_8 : ptrT Tryd.prog 8 = false := by kernel_rfl
@[go_sem] theorem zeroT_8 : zeroT Tryd.prog 8 = true := by kernel_rfl
@[go_sem] theorem zeroOk_8 : zeroOk Tryd.prog 8 = true := by kernel_rfl
@[go_sem] theorem bytesOf_8 : bytesOf Tryd.prog 8 = 24 := by kernel_rfl
@[go_sem] theorem zeroD_8 : zeroD Tryd.prog 8 = [.v (.int .i64 0), .v (.int .i64 0), .v (.bool false), .v (.int .u8 0)] := by kernel_rfl
@[go_sem] theorem fld_8_0 : fld Tryd.prog 8 0 = some (0, 2) := by kernel_rfl
@[go_sem] theorem fld_8_1 : fld Tryd.prog 8 1 = some (1, 3) := by kernel_rfl
@[go_sem] theorem fld_8_2 : fld Tryd.prog 8 2 = some (2, 4) := by kernel_rfl
@[go_sem] theorem fld_8_3 : fld Tryd.prog 8 3 = some (3, 6) := by kernel_rfl
@[go_sem] theorem okT_9 : okT Tryd.prog 9 = true := by kernel_rfl
@[go_sem] theorem szOf_9 : szOf Tryd.prog 9 = 1 := by kernel_rfl
@[go_sem] theorem aggT_9 : aggT Tryd.prog 9 = false := by kernel_rfl
@[go_sem] theorem undS_9 : (Tryd.prog.underlying 9).isSome = true := by kernel_rfl
@[go_sem] theorem infS_9 : (Tryd.prog.info? 9).isSome = true := by kernel_rfl
@[go_sem] theorem ifaceT_9 : ifaceT Tryd.prog 9 = false := by kernel_rfl
@[go_sem] theorem ptrT_9 : ptrT Tryd.prog 9 = false := by kernel_rfl
@[go_sem] theorem zeroT_9 : zeroT Tryd.prog 9 = true := by kernel_rfl
@[go_sem] theorem zeroOk_9 : zeroOk Tryd.prog 9 = true := by kernel_rfl
@[go_sem] theorem bytesOf_9 : bytesOf Tryd.prog 9 = 16 := by kernel_rfl
@[go_sem] theorem zeroD_9 : zeroD Tryd.prog 9 = [.v (.string ⟨#[]⟩)] := by kernel_rfl
@[go_sem] theorem strT_9 : strT Tryd.prog 9 = true := by kernel_rfl
@[go_sem] theorem okT_11 : okT Tryd.prog 11 = true := by kernel_rfl
@[go_sem] theorem szOf_11 : szOf Tryd.prog 11 = 1 := by kernel_rfl
@[go_sem] theorem aggT_11 : aggT Tryd.prog 11 = false := by kernel_rfl
@[go_sem] theorem undS_11 : (Tryd.prog.underlying 11).isSome = true := by kernel_rfl
@[go_sem] theorem infS_11 : (Tryd.prog.info? 11).isSome = true := by kernel_rfl
@[go_sem] theorem ifaceT_11 : ifaceT Tryd.prog 11 = false := by kernel_rfl
@[go_sem] theorem ptrT_11 : ptrT Tryd.prog 11 = false := by kernel_rfl
@[go_sem] theorem zeroT_11 : zeroT Tryd.prog 11 = true := by kernel_rfl
@[go_sem] theorem zeroOk_11 : zeroOk Tryd.prog 11 = true := by kernel_rfl
@[go_sem] theorem bytesOf_11 : bytesOf Tryd.prog 11 = 16 := by kernel_rfl
@[go_sem] theorem zeroD_11 : zeroD Tryd.prog 11 = [.v (.string ⟨#[]⟩)] := by kernel_rfl
@[go_sem] theorem strT_11 : strT Tryd.prog 11 = true := by kernel_rfl
@[go_sem] theorem okT_12 : okT Tryd.prog 12 = true := by kernel_rfl
@[go_sem] theorem szOf_12 : szOf Tryd.prog 12 = 1 := by kernel_rfl
@[go_sem] theorem aggT_12 : aggT Tryd.prog 12 = false := by kernel_rfl
@[go_sem] theorem undS_12 : (Tryd.prog.underlying 12).isSome = true := by kernel_rfl
@[go_sem] theorem infS_12 : (Tryd.prog.info? 12).isSome = true := by kernel_rfl
@[go_sem] theorem ifaceT_12 : ifaceT Tryd.prog 12 = false := by kernel_rfl
@[go_sem] theorem ptrT_12 : ptrT Tryd.prog 12 = false := by kernel_rfl
@[go_sem] theorem zeroT_12 : zeroT Tryd.prog 12 = true := by kernel_rfl
@[go_sem] theorem zeroOk_12 : zeroOk Tryd.prog 12 = true := by kernel_rfl
@[go_sem] theorem bytesOf_12 : bytesOf Tryd.prog 12 = 8 := by kernel_rfl
@[go_sem] theorem zeroD_12 : zeroD Tryd.prog 12 = [.v (.int .u64 0)] := by kernel_rfl
@[go_sem] theorem okT_13 : okT Tryd.prog 13 = true := by kernel_rfl
@[go_sem] theorem szOf_13 : szOf Tryd.prog 13 = 2 := by kernel_rfl
@[go_sem] theorem aggT_13 : aggT Tryd.prog 13 = true := by kernel_rfl
@[go_sem] theorem undS_13 : (Tryd.prog.underlying 13).isSome = true := by kernel_rfl
@[go_sem] theorem infS_13 : (Tryd.prog.info? 13).isSome = true := by kernel_rfl
@[go_sem] theorem ifaceT_13 : ifaceT Tryd.prog 13 = false := by kernel_rfl
@[go_sem] theorem ptrT_13 : ptrT Tryd.prog 13 = false := by kernel_rfl
@[go_sem] theorem zeroT_13 : zeroT Tryd.prog 13 = true := by kernel_rfl
@[go_sem] theorem zeroOk_13 : zeroOk Tryd.prog 13 = true := by kernel_rfl
@[go_sem] theorem bytesOf_13 : bytesOf Tryd.prog 13 = 24 := by kernel_rfl
@[go_sem] theorem zeroD_13 : zeroD Tryd.prog 13 = [.v (.string ⟨#[]⟩), .v (.int .u64 0)] := by kernel_rfl
@[go_sem] theorem fld_13_0 : fld Tryd.prog 13 0 = some (0, 9) := by kernel_rfl
@[go_sem] theorem fld_13_1 : fld Tryd.prog 13 1 = some (1, 12) := by kernel_rfl
@[go_sem] theorem okT_14 : okT Tryd.prog 14 = true := by kernel_rfl
@[go_sem] theorem szOf_14 : szOf Tryd.prog 14 = 2 := by kernel_rfl
@[go_sem] theorem aggT_14 : aggT Tryd.prog 14 = true := by kernel_rfl
@[go_sem] theorem undS_14 : (Tryd.prog.underlying 14).isSome = true := by kernel_rfl
@[go_sem] theorem infS_14 : (Tryd.prog.info? 14).isSome = true := by kernel_rfl
@[go_sem] theorem ifaceT_14 : ifaceT Tryd.prog 14 = false := by kernel_rfl
@[go_sem] theorem ptrT_14 : ptrT Tryd.prog 14 = false := by kernel_rfl
@[go_sem] theorem zeroT_14 : zeroT Tryd.prog 14 = true := by kernel_rfl
@[go_sem] theorem zeroOk_14 : zeroOk Tryd.prog 14 = true := by kernel_rfl
@[go_sem] theorem bytesOf_14 : bytesOf Tryd.prog 14 = 24 := by kernel_rfl
@[go_sem] theorem zeroD_14 : zeroD Tryd.prog 14 = [.v (.string ⟨#[]⟩), .v (.int .u64 0)] := by kernel_rfl
@[go_sem] theorem fld_14_0 : fld Tryd.prog 14 0 = some (0, 9) := by kernel_rfl
@[go_sem] theorem fld_14_1 : fld Tryd.prog 14 1 = some (1, 12) := by kernel_rfl
@[go_sem] theorem okT_17 : okT Tryd.prog 17 = true := by kernel_rfl
@[go_sem] theorem szOf_17 : szOf Tryd.prog 17 = 1 := by kernel_rfl
@[go_sem] theorem aggT_17 : aggT Tryd.prog 17 = false := by kernel_rfl
@[go_sem] theorem undS_17 : (Tryd.prog.underlying 17).isSome = true := by kernel_rfl
@[go_sem] theorem infS_17 : (Tryd.prog.info? 17).isSome = true := by kernel_rfl
@[go_sem] theorem ifaceT_17 : ifaceT Tryd.prog 17 = false := by kernel_rfl
@[go_sem] theorem ptrT_17 : ptrT Tryd.prog 17 = true := by kernel_rfl
@[go_sem] theorem zeroT_17 : zeroT Tryd.prog 17 = true := by kernel_rfl
@[go_sem] theorem zeroOk_17 : zeroOk Tryd.prog 17 = true := by kernel_rfl
@[go_sem] theorem bytesOf_17 : bytesOf Tryd.prog 17 = 8 := by kernel_rfl
@[go_sem] theorem zeroD_17 : zeroD Tryd.prog 17 = [.v (.pointer none)] := by kernel_rfl
@[go_sem] theorem okT_20 : okT Tryd.prog 20 = true := by kernel_rfl
@[go_sem] theorem szOf_20 : szOf Tryd.prog 20 = 1 := by kernel_rfl
@[go_sem] theorem aggT_20 : aggT Tryd.prog 20 = false := by kernel_rfl
@[go_sem] theorem undS_20 : (Tryd.prog.underlying 20).isSome = true := by kernel_rfl
@[go_sem] theorem infS_20 : (Tryd.prog.info? 20).isSome = true := by kernel_rfl
@[go_sem] theorem ifaceT_20 : ifaceT Tryd.prog 20 = true := by kernel_rfl
@[go_sem] theorem ptrT_20 : ptrT Tryd.prog 20 = false := by kernel_rfl
@[go_sem] theorem zeroT_20 : zeroT Tryd.prog 20 = true := by kernel_rfl
@[go_sem] theorem zeroOk_20 : zeroOk Tryd.prog 20 = true := by kernel_rfl
@[go_sem] theorem bytesOf_20 : bytesOf Tryd.prog 20 = 16 := by kernel_rfl
@[go_sem] theorem zeroD_20 : zeroD Tryd.prog 20 = [.v .nilIface] := by kernel_rfl
@[go_sem] theorem okT_22 : okT Tryd.prog 22 = true := by kernel_rfl
@[go_sem] theorem szOf_22 : szOf Tryd.prog 22 = 1 := by kernel_rfl
@[go_sem] theorem aggT_22 : aggT Tryd.prog 22 = false := by kernel_rfl
@[go_sem] theorem undS_22 : (Tryd.prog.underlying 22).isSome = true := by kernel_rfl
@[go_sem] theorem infS_22 : (Tryd.prog.info? 22).isSome = true := by kernel_rfl
@[go_sem] theorem ifaceT_22 : ifaceT Tryd.prog 22 = false := by kernel_rfl
@[go_sem] theorem ptrT_22 : ptrT Tryd.prog 22 = false := by kernel_rfl
@[go_sem] theorem zeroT_22 : zeroT Tryd.prog 22 = true := by kernel_rfl
@[go_sem] theorem zeroOk_22 : zeroOk Tryd.prog 22 = true := by kernel_rfl
@[go_sem] theorem bytesOf_22 : bytesOf Tryd.prog 22 = 24 := by kernel_rfl
@[go_sem] theorem zeroD_22 : zeroD Tryd.prog 22 = [.sl .full []] := by kernel_rfl
@[go_sem] theorem elT_22 : elT Tryd.prog 22 = some 41 := by kernel_rfl
@[go_sem] theorem bul_22 (own : Own) (es : List D) (ty : TypeId) (cs : Array Bool) : dbuiltin Tryd.prog .len #[22] ty cs [.sl own es] = some (True, .v (.int .i64 es.length)) := bu_len own es _ ty cs elT_22
@[go_sem] theorem bwl_22 (k off n c : Nat) (ty : TypeId) (cs : Array Bool) : dbuiltin Tryd.prog .len #[22] ty cs [.win k off n c] = some (True, .v (.int .i64 n)) := bu_wlen k off n c _ ty cs elT_22
@[go_sem] theorem bwc_22 (k off n c : Nat) (ty : TypeId) (cs : Array Bool) : dbuiltin Tryd.prog .cap #[22] ty cs [.win k off n c] = some (True, .v (.int .i64 c)) := bu_wcap k off n c _ ty cs elT_22
@[go_sem] theorem bfc_22 (es : List D) (ty : TypeId) (cs : Array Bool) : dbuiltin Tryd.prog .cap #[22] ty cs [.sl .full es] = some (True, .v (.int .i64 es.length)) := bu_fcap es _ ty cs elT_22
@[go_sem] theorem okT_25 : okT Tryd.prog 25 = true := by kernel_rfl
@[go_sem] theorem szOf_25 : szOf Tryd.prog 25 = 1 := by kernel_rfl
@[go_sem] theorem aggT_25 : aggT Tryd.prog 25 = false := by kernel_rfl
@[go_sem] theorem undS_25 : (Tryd.prog.underlying 25).isSome = true := by kernel_rfl
@[go_sem] theorem infS_25 : (Tryd.prog.info? 25).isSome = true := by kernel_rfl
@[go_sem] theorem ifaceT_25 : ifaceT Tryd.prog 25 = false := by kernel_rfl
@[go_sem] theorem ptrT_25 : ptrT Tryd.prog 25 = true := by kernel_rfl
@[go_sem] theorem zeroT_25 : zeroT Tryd.prog 25 = true := by kernel_rfl
@[go_sem] theorem zeroOk_25 : zeroOk Tryd.prog 25 = true := by kernel_rfl
@[go_sem] theorem bytesOf_25 : bytesOf Tryd.prog 25 = 8 := by kernel_rfl
@[go_sem] theorem zeroD_25 : zeroD Tryd.prog 25 = [.v (.pointer none)] := by kernel_rfl
@[go_sem] theorem okT_27 : okT Tryd.prog 27 = true := by kernel_rfl
@[go_sem] theorem szOf_27 : szOf Tryd.prog 27 = 1 := by kernel_rfl
@[go_sem] theorem aggT_27 : aggT Tryd.prog 27 = false := by kernel_rfl
@[go_sem] theorem undS_27 : (Tryd.prog.underlying 27).isSome = true := by kernel_rfl
@[go_sem] theorem infS_27 : (Tryd.prog.info? 27).isSome = true := by kernel_rfl
@[go_sem] theorem ifaceT_27 : ifaceT Tryd.prog 27 = true := by kernel_rfl
@[go_sem] theorem ptrT_27 : ptrT Tryd.prog 27 = false := by kernel_rfl
@[go_sem] theorem zeroT_27 : zeroT Tryd.prog 27 = true := by kernel_rfl
@[go_sem] theorem zeroOk_27 : zeroOk Tryd.prog 27 = true := by kernel_rfl
@[go_sem] theorem bytesOf_27 : bytesOf Tryd.prog 27 = 16 := by kernel_rfl
@[go_sem] theorem zeroD_27 : zeroD Tryd.prog 27 = [.v .nilIface] := by kernel_rfl
@[go_sem] theorem okT_30 : okT Tryd.prog 30 = true := by kernel_rfl
@[go_sem] theorem szOf_30 : szOf Tryd.prog 30 = 1 := by kernel_rfl
@[go_sem] theorem aggT_30 : aggT Tryd.prog 30 = false := by kernel_rfl
@[go_sem] theorem undS_30 : (Tryd.prog.underlying 30).isSome = true := by kernel_rfl
@[go_sem] theorem infS_30 : (Tryd.prog.info? 30).isSome = true := by kernel_rfl
@[go_sem] theorem ifaceT_30 : ifaceT Tryd.prog 30 = false := by kernel_rfl
@[go_sem] theorem ptrT_30 : ptrT Tryd.prog 30 = true := by kernel_rfl
@[go_sem] theorem zeroT_30 : zeroT Tryd.prog 30 = true := by kernel_rfl
@[go_sem] theorem zeroOk_30 : zeroOk Tryd.prog 30 = true := by kernel_rfl
@[go_sem] theorem bytesOf_30 : bytesOf Tryd.prog 30 = 8 := by kernel_rfl
@[go_sem] theorem zeroD_30 : zeroD Tryd.prog 30 = [.v (.pointer none)] := by kernel_rfl
@[go_sem] theorem okT_31 : okT Tryd.prog 31 = true := by kernel_rfl
@[go_sem] theorem szOf_31 : szOf Tryd.prog 31 = 1 := by kernel_rfl
@[go_sem] theorem aggT_31 : aggT Tryd.prog 31 = false := by kernel_rfl
@[go_sem] theorem undS_31 : (Tryd.prog.underlying 31).isSome = true := by kernel_rfl
@[go_sem] theorem infS_31 : (Tryd.prog.info? 31).isSome = true := by kernel_rfl
@[go_sem] theorem ifaceT_31 : ifaceT Tryd.prog 31 = false := by kernel_rfl
@[go_sem] theorem ptrT_31 : ptrT Tryd.prog 31 = false := by kernel_rfl
@[go_sem] theorem zeroT_31 : zeroT Tryd.prog 31 = true := by kernel_rfl
@[go_sem] theorem zeroOk_31 : zeroOk Tryd.prog 31 = true := by kernel_rfl
@[go_sem] theorem bytesOf_31 : bytesOf Tryd.prog 31 = 24 := by kernel_rfl
@[go_sem] theorem zeroD_31 : zeroD Tryd.prog 31 = [.sl .full []] := by kernel_rfl
@[go_sem] theorem elT_31 : elT Tryd.prog 31 = some 75 := by kernel_rfl
@[go_sem] theorem bul_31 (own : Own) (es : List D) (ty : TypeId) (cs : Array Bool) : dbuiltin Tryd.prog .len #[31] ty cs [.sl own es] = some (True, .v (.int .i64 es.length)) := bu_len own es _ ty cs elT_31
@[go_sem] theorem bwl_31 (k off n c : Nat) (ty : TypeId) (cs : Array Bool) : dbuiltin Tryd.prog .len #[31] ty cs [.win k off n c] = some (True, .v (.int .i64 n)) := bu_wlen k off n c _ ty cs elT_31
@[go_sem] theorem bwc_31 (k off n c : Nat) (ty : TypeId) (cs : Array Bool) : dbuiltin Tryd.prog .cap #[31] ty cs [.win k off n c] = some (True, .v (.int .i64 c)) := bu_wcap k off n c _ ty cs elT_31
@[go_sem] theorem bfc_31 (es : List D) (ty : TypeId) (cs : Array Bool) : dbuiltin Tryd.prog .cap #[31] ty cs [.sl .full es] = some (True, .v (.int .i64 es.length)) := bu_fcap es _ ty cs elT_31
@[go_sem] theorem okT_32 : okT Tryd.prog 32 = true := by kernel_rfl
@[go_sem] theorem szOf_32 : szOf Tryd.prog 32 = 1 := by kernel_rfl
@[go_sem] theorem aggT_32 : aggT Tryd.prog 32 = false := by kernel_rfl
@[go_sem] theorem undS_32 : (Tryd.prog.underlying 32).isSome = true := by kernel_rfl
@[go_sem] theorem infS_32 : (Tryd.prog.info? 32).isSome = true := by kernel_rfl
@[go_sem] theorem ifaceT_32 : ifaceT Tryd.prog 32 = false := by kernel_rfl
@[go_sem] theorem ptrT_32 : ptrT Tryd.prog 32 = false := by kernel_rfl
@[go_sem] theorem zeroT_32 : zeroT Tryd.prog 32 = true := by kernel_rfl
@[go_sem] theorem zeroOk_32 : zeroOk Tryd.prog 32 = true := by kernel_rfl
@[go_sem] theorem bytesOf_32 : bytesOf Tryd.prog 32 = 24 := by kernel_rfl
@[go_sem] theorem zeroD_32 : zeroD Tryd.prog 32 = [.sl .full []] := by kernel_rfl
@[go_sem] theorem elT_32 : elT Tryd.prog 32 = some 73 := by kernel_rfl
@[go_sem] theorem bul_32 (own : Own) (es : List D) (ty : TypeId) (cs : Array Bool) : dbuiltin Tryd.prog .len #[32] ty cs [.sl own es] = some (True, .v (.int .i64 es.length)) := bu_len own es _ ty cs elT_32
@[go_sem] theorem bwl_32 (k off n c : Nat) (ty : TypeId) (cs : Array Bool) : dbuiltin Tryd.prog .len #[32] ty cs [.win k off n c] = some (True, .v (.int .i64 n)) := bu_wlen k off n c _ ty cs elT_32
@[go_sem] theorem bwc_32 (k off n c : Nat) (ty : TypeId) (cs : Array Bool) : dbuiltin Tryd.prog .cap #[32] ty cs [.win k off n c] = some (True, .v (.int .i64 c)) := bu_wcap k off n c _ ty cs elT_32
@[go_sem] theorem bfc_32 (es : List D) (ty : TypeId) (cs : Array Bool) : dbuiltin Tryd.prog .cap #[32] ty cs [.sl .full es] = some (True, .v (.int .i64 es.length)) := bu_fcap es _ ty cs elT_32
@[go_sem] theorem okT_34 : okT Tryd.prog 34 = true := by kernel_rfl
@[go_sem] theorem szOf_34 : szOf Tryd.prog 34 = 3 := by kernel_rfl
@[go_sem] theorem aggT_34 : aggT Tryd.prog 34 = true := by kernel_rfl
@[go_sem] theorem undS_34 : (Tryd.prog.underlying 34).isSome = true := by kernel_rfl
@[go_sem] theorem infS_34 : (Tryd.prog.info? 34).isSome = true := by kernel_rfl
@[go_sem] theorem ifaceT_34 : ifaceT Tryd.prog 34 = false := by kernel_rfl
@[go_sem] theorem ptrT_34 : ptrT Tryd.prog 34 = false := by kernel_rfl
@[go_sem] theorem zeroT_34 : zeroT Tryd.prog 34 = true := by kernel_rfl
@[go_sem] theorem zeroOk_34 : zeroOk Tryd.prog 34 = true := by kernel_rfl
@[go_sem] theorem bytesOf_34 : bytesOf Tryd.prog 34 = 56 := by kernel_rfl
@[go_sem] theorem zeroD_34 : zeroD Tryd.prog 34 = [.v (.int .i64 0), .sl .full [], .sl .full []] := by kernel_rfl
@[go_sem] theorem fld_34_0 : fld Tryd.prog 34 0 = some (0, 3) := by kernel_rfl
@[go_sem] theorem fld_34_1 : fld Tryd.prog 34 1 = some (1, 31) := by kernel_rfl
@[go_sem] theorem fld_34_2 : fld Tryd.prog 34 2 = some (2, 32) := by kernel_rfl
noncomputable def pl34 : Nat → Option (Nat × Nat) := (placeT Tryd.prog 34).getD fun _ => none
@[go_sem] theorem placeT_34 : placeT Tryd.prog 34 = some pl34 := by kernel_rfl
@[go_sem] theorem pl_34_0 : pl34 0 = some (0, 1) := by kernel_rfl
@[go_sem] theorem pl_34_1 : pl34 1 = some (1, 1) := by kernel_rfl
@[go_sem] theorem pl_34_2 : pl34 2 = some (2, 1) := by kernel_rfl
@[go_sem] theorem okT_37 : okT Tryd.prog 37 = true := by kernel_rfl
@[go_sem] theorem szOf_37 : szOf Tryd.prog 37 = 32 := by kernel_rfl
@[go_sem] theorem aggT_37 : aggT Tryd.prog 37 = true := by kernel_rfl
@[go_sem] theorem undS_37 : (Tryd.prog.underlying 37).isSome = true := by kernel_rfl
@[go_sem] theorem infS_37 : (Tryd.prog.info? 37).isSome = true := by kernel_rfl
@[go_sem] theorem ifaceT_37 : ifaceT Tryd.prog 37 = false := by kernel_rfl
@[go_sem] theorem ptrT_37 : ptrT Tryd.prog 37 = false := by kernel_rfl
@[go_sem] theorem zeroT_37 : zeroT Tryd.prog 37 = true := by kernel_rfl
@[go_sem] theorem zeroOk_37 : zeroOk Tryd.prog 37 = true := by kernel_rfl
@[go_sem] theorem bytesOf_37 : bytesOf Tryd.prog 37 = 32 := by kernel_rfl
@[go_sem] theorem zeroD_37 : zeroD Tryd.prog 37 = [.v (.int .u8 0), .v (.int .u8 0), .v (.int .u8 0), .v (.int .u8 0), .v (.int .u8 0), .v (.int .u8 0), .v (.int .u8 0), .v (.int .u8 0), .v (.int .u8 0), .v (.int .u8 0), .v (.int .u8 0), .v (.int .u8 0), .v (.int .u8 0), .v (.int .u8 0), .v (.int .u8 0), .v (.int .u8 0), .v (.int .u8 0), .v (.int .u8 0), .v (.int .u8 0), .v (.int .u8 0), .v (.int .u8 0), .v (.int .u8 0), .v (.int .u8 0), .v (.int .u8 0), .v (.int .u8 0), .v (.int .u8 0), .v (.int .u8 0), .v (.int .u8 0), .v (.int .u8 0), .v (.int .u8 0), .v (.int .u8 0), .v (.int .u8 0)] := by kernel_rfl
@[go_sem] theorem arT_37 : arT Tryd.prog 37 = some (32, 5) := by kernel_rfl
@[go_sem] theorem okT_38 : okT Tryd.prog 38 = true := by kernel_rfl
@[go_sem] theorem szOf_38 : szOf Tryd.prog 38 = 1 := by kernel_rfl
@[go_sem] theorem aggT_38 : aggT Tryd.prog 38 = false := by kernel_rfl
@[go_sem] theorem undS_38 : (Tryd.prog.underlying 38).isSome = true := by kernel_rfl
@[go_sem] theorem infS_38 : (Tryd.prog.info? 38).isSome = true := by kernel_rfl
@[go_sem] theorem ifaceT_38 : ifaceT Tryd.prog 38 = false := by kernel_rfl
@[go_sem] theorem ptrT_38 : ptrT Tryd.prog 38 = false := by kernel_rfl
@[go_sem] theorem zeroT_38 : zeroT Tryd.prog 38 = true := by kernel_rfl
@[go_sem] theorem zeroOk_38 : zeroOk Tryd.prog 38 = true := by kernel_rfl
@[go_sem] theorem bytesOf_38 : bytesOf Tryd.prog 38 = 24 := by kernel_rfl
@[go_sem] theorem zeroD_38 : zeroD Tryd.prog 38 = [.sl .full []] := by kernel_rfl
@[go_sem] theorem elT_38 : elT Tryd.prog 38 = some 5 := by kernel_rfl
@[go_sem] theorem bul_38 (own : Own) (es : List D) (ty : TypeId) (cs : Array Bool) : dbuiltin Tryd.prog .len #[38] ty cs [.sl own es] = some (True, .v (.int .i64 es.length)) := bu_len own es _ ty cs elT_38
@[go_sem] theorem bwl_38 (k off n c : Nat) (ty : TypeId) (cs : Array Bool) : dbuiltin Tryd.prog .len #[38] ty cs [.win k off n c] = some (True, .v (.int .i64 n)) := bu_wlen k off n c _ ty cs elT_38
@[go_sem] theorem bwc_38 (k off n c : Nat) (ty : TypeId) (cs : Array Bool) : dbuiltin Tryd.prog .cap #[38] ty cs [.win k off n c] = some (True, .v (.int .i64 c)) := bu_wcap k off n c _ ty cs elT_38
@[go_sem] theorem bfc_38 (es : List D) (ty : TypeId) (cs : Array Bool) : dbuiltin Tryd.prog .cap #[38] ty cs [.sl .full es] = some (True, .v (.int .i64 es.length)) := bu_fcap es _ ty cs elT_38
@[go_sem] theorem okT_39 : okT Tryd.prog 39 = true := by kernel_rfl
@[go_sem] theorem szOf_39 : szOf Tryd.prog 39 = 1 := by kernel_rfl
@[go_sem] theorem aggT_39 : aggT Tryd.prog 39 = false := by kernel_rfl
@[go_sem] theorem undS_39 : (Tryd.prog.underlying 39).isSome = true := by kernel_rfl
@[go_sem] theorem infS_39 : (Tryd.prog.info? 39).isSome = true := by kernel_rfl
@[go_sem] theorem ifaceT_39 : ifaceT Tryd.prog 39 = false := by kernel_rfl
@[go_sem] theorem ptrT_39 : ptrT Tryd.prog 39 = false := by kernel_rfl
@[go_sem] theorem zeroT_39 : zeroT Tryd.prog 39 = true := by kernel_rfl
@[go_sem] theorem zeroOk_39 : zeroOk Tryd.prog 39 = true := by kernel_rfl
@[go_sem] theorem bytesOf_39 : bytesOf Tryd.prog 39 = 24 := by kernel_rfl
@[go_sem] theorem zeroD_39 : zeroD Tryd.prog 39 = [.sl .full []] := by kernel_rfl
@[go_sem] theorem elT_39 : elT Tryd.prog 39 = some 37 := by kernel_rfl
@[go_sem] theorem bul_39 (own : Own) (es : List D) (ty : TypeId) (cs : Array Bool) : dbuiltin Tryd.prog .len #[39] ty cs [.sl own es] = some (True, .v (.int .i64 es.length)) := bu_len own es _ ty cs elT_39
@[go_sem] theorem bwl_39 (k off n c : Nat) (ty : TypeId) (cs : Array Bool) : dbuiltin Tryd.prog .len #[39] ty cs [.win k off n c] = some (True, .v (.int .i64 n)) := bu_wlen k off n c _ ty cs elT_39
@[go_sem] theorem bwc_39 (k off n c : Nat) (ty : TypeId) (cs : Array Bool) : dbuiltin Tryd.prog .cap #[39] ty cs [.win k off n c] = some (True, .v (.int .i64 c)) := bu_wcap k off n c _ ty cs elT_39
@[go_sem] theorem bfc_39 (es : List D) (ty : TypeId) (cs : Array Bool) : dbuiltin Tryd.prog .cap #[39] ty cs [.sl .full es] = some (True, .v (.int .i64 es.length)) := bu_fcap es _ ty cs elT_39
@[go_sem] theorem okT_41 : okT Tryd.prog 41 = true := by kernel_rfl
@[go_sem] theorem szOf_41 : szOf Tryd.prog 41 = 35 := by kernel_rfl
@[go_sem] theorem aggT_41 : aggT Tryd.prog 41 = true := by kernel_rfl
@[go_sem] theorem undS_41 : (Tryd.prog.underlying 41).isSome = true := by kernel_rfl
@[go_sem] theorem infS_41 : (Tryd.prog.info? 41).isSome = true := by kernel_rfl
@[go_sem] theorem ifaceT_41 : ifaceT Tryd.prog 41 = false := by kernel_rfl
@[go_sem] theorem ptrT_41 : ptrT Tryd.prog 41 = false := by kernel_rfl
@[go_sem] theorem zeroT_41 : zeroT Tryd.prog 41 = true := by kernel_rfl
@[go_sem] theorem zeroOk_41 : zeroOk Tryd.prog 41 = true := by kernel_rfl
@[go_sem] theorem bytesOf_41 : bytesOf Tryd.prog 41 = 88 := by kernel_rfl
@[go_sem] theorem zeroD_41 : zeroD Tryd.prog 41 = [.v (.int .u8 0), .v (.int .u8 0), .v (.int .u8 0), .v (.int .u8 0), .v (.int .u8 0), .v (.int .u8 0), .v (.int .u8 0), .v (.int .u8 0), .v (.int .u8 0), .v (.int .u8 0), .v (.int .u8 0), .v (.int .u8 0), .v (.int .u8 0), .v (.int .u8 0), .v (.int .u8 0), .v (.int .u8 0), .v (.int .u8 0), .v (.int .u8 0), .v (.int .u8 0), .v (.int .u8 0), .v (.int .u8 0), .v (.int .u8 0), .v (.int .u8 0), .v (.int .u8 0), .v (.int .u8 0), .v (.int .u8 0), .v (.int .u8 0), .v (.int .u8 0), .v (.int .u8 0), .v (.int .u8 0), .v (.int .u8 0), .v (.int .u8 0), .v (.int .u8 0), .sl .full [], .sl .full []] := by kernel_rfl
@[go_sem] theorem fld_41_0 : fld Tryd.prog 41 0 = some (0, 5) := by kernel_rfl
@[go_sem] theorem fld_41_1 : fld Tryd.prog 41 1 = some (1, 37) := by kernel_rfl
@[go_sem] theorem fld_41_2 : fld Tryd.prog 41 2 = some (33, 38) := by kernel_rfl
@[go_sem] theorem fld_41_3 : fld Tryd.prog 41 3 = some (34, 39) := by kernel_rfl
@[go_sem] theorem okT_44 : okT Tryd.prog 44 = true := by kernel_rfl
@[go_sem] theorem szOf_44 : szOf Tryd.prog 44 = 1 := by kernel_rfl
@[go_sem] theorem aggT_44 : aggT Tryd.prog 44 = false := by kernel_rfl
@[go_sem] theorem undS_44 : (Tryd.prog.underlying 44).isSome = true := by kernel_rfl
@[go_sem] theorem infS_44 : (Tryd.prog.info? 44).isSome = true := by kernel_rfl
@[go_sem] theorem ifaceT_44 : ifaceT Tryd.prog 44 = false := by kernel_rfl
@[go_sem] theorem ptrT_44 : ptrT Tryd.prog 44 = false := by kernel_rfl
@[go_sem] theorem zeroT_44 : zeroT Tryd.prog 44 = true := by kernel_rfl
@[go_sem] theorem zeroOk_44 : zeroOk Tryd.prog 44 = true := by kernel_rfl
@[go_sem] theorem bytesOf_44 : bytesOf Tryd.prog 44 = 8 := by kernel_rfl
@[go_sem] theorem zeroD_44 : zeroD Tryd.prog 44 = [.v .nilFunc] := by kernel_rfl
@[go_sem] theorem okT_45 : okT Tryd.prog 45 = true := by kernel_rfl
@[go_sem] theorem szOf_45 : szOf Tryd.prog 45 = 1 := by kernel_rfl
@[go_sem] theorem aggT_45 : aggT Tryd.prog 45 = false := by kernel_rfl
@[go_sem] theorem undS_45 : (Tryd.prog.underlying 45).isSome = true := by kernel_rfl
@[go_sem] theorem infS_45 : (Tryd.prog.info? 45).isSome = true := by kernel_rfl
@[go_sem] theorem ifaceT_45 : ifaceT Tryd.prog 45 = false := by kernel_rfl
@[go_sem] theorem ptrT_45 : ptrT Tryd.prog 45 = false := by kernel_rfl
@[go_sem] theorem zeroT_45 : zeroT Tryd.prog 45 = true := by kernel_rfl
@[go_sem] theorem zeroOk_45 : zeroOk Tryd.prog 45 = true := by kernel_rfl
@[go_sem] theorem bytesOf_45 : bytesOf Tryd.prog 45 = 24 := by kernel_rfl
@[go_sem] theorem zeroD_45 : zeroD Tryd.prog 45 = [.sl .full []] := by kernel_rfl
@[go_sem] theorem elT_45 : elT Tryd.prog 45 = some 38 := by kernel_rfl
@[go_sem] theorem bul_45 (own : Own) (es : List D) (ty : TypeId) (cs : Array Bool) : dbuiltin Tryd.prog .len #[45] ty cs [.sl own es] = some (True, .v (.int .i64 es.length)) := bu_len own es _ ty cs elT_45
@[go_sem] theorem bwl_45 (k off n c : Nat) (ty : TypeId) (cs : Array Bool) : dbuiltin Tryd.prog .len #[45] ty cs [.win k off n c] = some (True, .v (.int .i64 n)) := bu_wlen k off n c _ ty cs elT_45
@[go_sem] theorem bwc_45 (k off n c : Nat) (ty : TypeId) (cs : Array Bool) : dbuiltin Tryd.prog .cap #[45] ty cs [.win k off n c] = some (True, .v (.int .i64 c)) := bu_wcap k off n c _ ty cs elT_45
@[go_sem] theorem bfc_45 (es : List D) (ty : TypeId) (cs : Array Bool) : dbuiltin Tryd.prog .cap #[45] ty cs [.sl .full es] = some (True, .v (.int .i64 es.length)) := bu_fcap es _ ty cs elT_45
@[go_sem] theorem okT_54 : okT Tryd.prog 54 = true := by kernel_rfl
@[go_sem] theorem szOf_54 : szOf Tryd.prog 54 = 1 := by kernel_rfl
@[go_sem] theorem aggT_54 : aggT Tryd.prog 54 = false := by kernel_rfl
@[go_sem] theorem undS_54 : (Tryd.prog.underlying 54).isSome = true := by kernel_rfl
@[go_sem] theorem infS_54 : (Tryd.prog.info? 54).isSome = true := by kernel_rfl
@[go_sem] theorem ifaceT_54 : ifaceT Tryd.prog 54 = false := by kernel_rfl
@[go_sem] theorem ptrT_54 : ptrT Tryd.prog 54 = false := by kernel_rfl
@[go_sem] theorem zeroT_54 : zeroT Tryd.prog 54 = true := by kernel_rfl
@[go_sem] theorem zeroOk_54 : zeroOk Tryd.prog 54 = true := by kernel_rfl
@[go_sem] theorem bytesOf_54 : bytesOf Tryd.prog 54 = 8 := by kernel_rfl
@[go_sem] theorem zeroD_54 : zeroD Tryd.prog 54 = [.v (.int .i64 0)] := by kernel_rfl
@[go_sem] theorem okT_55 : okT Tryd.prog 55 = true := by kernel_rfl
@[go_sem] theorem szOf_55 : szOf Tryd.prog 55 = 1 := by kernel_rfl
@[go_sem] theorem aggT_55 : aggT Tryd.prog 55 = false := by kernel_rfl
@[go_sem] theorem undS_55 : (Tryd.prog.underlying 55).isSome = true := by kernel_rfl
@[go_sem] theorem infS_55 : (Tryd.prog.info? 55).isSome = true := by kernel_rfl
@[go_sem] theorem ifaceT_55 : ifaceT Tryd.prog 55 = false := by kernel_rfl
@[go_sem] theorem ptrT_55 : ptrT Tryd.prog 55 = false := by kernel_rfl
@[go_sem] theorem zeroT_55 : zeroT Tryd.prog 55 = true := by kernel_rfl
@[go_sem] theorem zeroOk_55 : zeroOk Tryd.prog 55 = true := by kernel_rfl
@[go_sem] theorem bytesOf_55 : bytesOf Tryd.prog 55 = 24 := by kernel_rfl
@[go_sem] theorem zeroD_55 : zeroD Tryd.prog 55 = [.sl .full []] := by kernel_rfl
@[go_sem] theorem elT_55 : elT Tryd.prog 55 = some 62 := by kernel_rfl
@[go_sem] theorem bul_55 (own : Own) (es : List D) (ty : TypeId) (cs : Array Bool) : dbuiltin Tryd.prog .len #[55] ty cs [.sl own es] = some (True, .v (.int .i64 es.length)) := bu_len own es _ ty cs elT_55
@[go_sem] theorem bwl_55 (k off n c : Nat) (ty : TypeId) (cs : Array Bool) : dbuiltin Tryd.prog .len #[55] ty cs [.win k off n c] = some (True, .v (.int .i64 n)) := bu_wlen k off n c _ ty cs elT_55
@[go_sem] theorem bwc_55 (k off n c : Nat) (ty : TypeId) (cs : Array Bool) : dbuiltin Tryd.prog .cap #[55] ty cs [.win k off n c] = some (True, .v (.int .i64 c)) := bu_wcap k off n c _ ty cs elT_55
@[go_sem] theorem bfc_55 (es : List D) (ty : TypeId) (cs : Array Bool) : dbuiltin Tryd.prog .cap #[55] ty cs [.sl .full es] = some (True, .v (.int .i64 es.length)) := bu_fcap es _ ty cs elT_55
@[go_sem] theorem okT_57 : okT Tryd.prog 57 = true := by kernel_rfl
@[go_sem] theorem szOf_57 : szOf Tryd.prog 57 = 2 := by kernel_rfl
@[go_sem] theorem aggT_57 : aggT Tryd.prog 57 = true := by kernel_rfl
@[go_sem] theorem undS_57 : (Tryd.prog.underlying 57).isSome = true := by kernel_rfl
@[go_sem] theorem infS_57 : (Tryd.prog.info? 57).isSome = true := by kernel_rfl
@[go_sem] theorem ifaceT_57 : ifaceT Tryd.prog 57 = false := by kernel_rfl
@[go_sem] theorem ptrT_57 : ptrT Tryd.prog 57 = false := by kernel_rfl
@[go_sem] theorem zeroT_57 : zeroT Tryd.prog 57 = true := by kernel_rfl
@[go_sem] theorem zeroOk_57 : zeroOk Tryd.prog 57 = true := by kernel_rfl
@[go_sem] theorem bytesOf_57 : bytesOf Tryd.prog 57 = 32 := by kernel_rfl
@[go_sem] theorem zeroD_57 : zeroD Tryd.prog 57 = [.sl .full [], .v (.int .i64 0)] := by kernel_rfl
@[go_sem] theorem fld_57_0 : fld Tryd.prog 57 0 = some (0, 55) := by kernel_rfl
@[go_sem] theorem fld_57_1 : fld Tryd.prog 57 1 = some (1, 3) := by kernel_rfl
noncomputable def pl57 : Nat → Option (Nat × Nat) := (placeT Tryd.prog 57).getD fun _ => none
@[go_sem] theorem placeT_57 : placeT Tryd.prog 57 = some pl57 := by kernel_rfl
@[go_sem] theorem pl_57_0 : pl57 0 = some (0, 1) := by kernel_rfl
@[go_sem] theorem pl_57_1 : pl57 1 = some (1, 1) := by kernel_rfl
@[go_sem] theorem okT_62 : okT Tryd.prog 62 = true := by kernel_rfl
@[go_sem] theorem szOf_62 : szOf Tryd.prog 62 = 34 := by kernel_rfl
@[go_sem] theorem aggT_62 : aggT Tryd.prog 62 = true := by kernel_rfl
@[go_sem] theorem undS_62 : (Tryd.prog.underlying 62).isSome = true := by kernel_rfl
@[go_sem] theorem infS_62 : (Tryd.prog.info? 62).isSome = true := by kernel_rfl
@[go_sem] theorem ifaceT_62 : ifaceT Tryd.prog 62 = false := by kernel_rfl
@[go_sem] theorem ptrT_62 : ptrT Tryd.prog 62 = false := by kernel_rfl
@[go_sem] theorem zeroT_62 : zeroT Tryd.prog 62 = true := by kernel_rfl
@[go_sem] theorem zeroOk_62 : zeroOk Tryd.prog 62 = true := by kernel_rfl
@[go_sem] theorem bytesOf_62 : bytesOf Tryd.prog 62 = 80 := by kernel_rfl
@[go_sem] theorem zeroD_62 : zeroD Tryd.prog 62 = [.v (.int .u8 0), .v (.int .u8 0), .v (.int .u8 0), .v (.int .u8 0), .v (.int .u8 0), .v (.int .u8 0), .v (.int .u8 0), .v (.int .u8 0), .v (.int .u8 0), .v (.int .u8 0), .v (.int .u8 0), .v (.int .u8 0), .v (.int .u8 0), .v (.int .u8 0), .v (.int .u8 0), .v (.int .u8 0), .v (.int .u8 0), .v (.int .u8 0), .v (.int .u8 0), .v (.int .u8 0), .v (.int .u8 0), .v (.int .u8 0), .v (.int .u8 0), .v (.int .u8 0), .v (.int .u8 0), .v (.int .u8 0), .v (.int .u8 0), .v (.int .u8 0), .v (.int .u8 0), .v (.int .u8 0), .v (.int .u8 0), .v (.int .u8 0), .sl .full [], .sl .full []] := by kernel_rfl
@[go_sem] theorem fld_62_0 : fld Tryd.prog 62 0 = some (0, 37) := by kernel_rfl
@[go_sem] theorem fld_62_1 : fld Tryd.prog 62 1 = some (32, 38) := by kernel_rfl
@[go_sem] theorem fld_62_2 : fld Tryd.prog 62 2 = some (33, 39) := by kernel_rfl
noncomputable def pl62 : Nat → Option (Nat × Nat) := (placeT Tryd.prog 62).getD fun _ => none
@[go_sem] theorem placeT_62 : placeT Tryd.prog 62 = some pl62 := by kernel_rfl
@[go_sem] theorem pl_62_0 : pl62 0 = some (0, 32) := by kernel_rfl
@[go_sem] theorem pl_62_1 : pl62 1 = some (32, 1) := by kernel_rfl
@[go_sem] theorem pl_62_2 : pl62 2 = some (33, 1) := by kernel_rfl
@[go_sem] theorem okT_66 : okT Tryd.prog 66 = true := by kernel_rfl
@[go_sem] theorem szOf_66 : szOf Tryd.prog 66 = 1 := by kernel_rfl
@[go_sem] theorem aggT_66 : aggT Tryd.prog 66 = false := by kernel_rfl
@[go_sem] theorem undS_66 : (Tryd.prog.underlying 66).isSome = true := by kernel_rfl
@[go_sem] theorem infS_66 : (Tryd.prog.info? 66).isSome = true := by kernel_rfl
@[go_sem] theorem ifaceT_66 : ifaceT Tryd.prog 66 = false := by kernel_rfl
@[go_sem] theorem ptrT_66 : ptrT Tryd.prog 66 = false := by kernel_rfl
@[go_sem] theorem zeroT_66 : zeroT Tryd.prog 66 = true := by kernel_rfl
@[go_sem] theorem zeroOk_66 : zeroOk Tryd.prog 66 = true := by kernel_rfl
@[go_sem] theorem bytesOf_66 : bytesOf Tryd.prog 66 = 8 := by kernel_rfl
@[go_sem] theorem zeroD_66 : zeroD Tryd.prog 66 = [.v .nilFunc] := by kernel_rfl
@[go_sem] theorem okT_68 : okT Tryd.prog 68 = true := by kernel_rfl
@[go_sem] theorem szOf_68 : szOf Tryd.prog 68 = 1 := by kernel_rfl
@[go_sem] theorem aggT_68 : aggT Tryd.prog 68 = false := by kernel_rfl
@[go_sem] theorem undS_68 : (Tryd.prog.underlying 68).isSome = true := by kernel_rfl
@[go_sem] theorem infS_68 : (Tryd.prog.info? 68).isSome = true := by kernel_rfl
@[go_sem] theorem ifaceT_68 : ifaceT Tryd.prog 68 = false := by kernel_rfl
@[go_sem] theorem ptrT_68 : ptrT Tryd.prog 68 = true := by kernel_rfl
@[go_sem] theorem zeroT_68 : zeroT Tryd.prog 68 = true := by kernel_rfl
@[go_sem] theorem zeroOk_68 : zeroOk Tryd.prog 68 = true := by kernel_rfl
@[go_sem] theorem bytesOf_68 : bytesOf Tryd.prog 68 = 8 := by kernel_rfl
@[go_sem] theorem zeroD_68 : zeroD Tryd.prog 68 = [.v (.pointer none)] := by kernel_rfl
@[go_sem] theorem okT_71 : okT Tryd.prog 71 = true := by kernel_rfl
@[go_sem] theorem szOf_71 : szOf Tryd.prog 71 = 1 := by kernel_rfl
@[go_sem] theorem aggT_71 : aggT Tryd.prog 71 = false := by kernel_rfl
@[go_sem] theorem undS_71 : (Tryd.prog.underlying 71).isSome = true := by kernel_rfl
@[go_sem] theorem infS_71 : (Tryd.prog.info? 71).isSome = true := by kernel_rfl
@[go_sem] theorem ifaceT_71 : ifaceT Tryd.prog 71 = false := by kernel_rfl
@[go_sem] theorem ptrT_71 : ptrT Tryd.prog 71 = false := by kernel_rfl
@[go_sem] theorem zeroT_71 : zeroT Tryd.prog 71 = true := by kernel_rfl
@[go_sem] theorem zeroOk_71 : zeroOk Tryd.prog 71 = true := by kernel_rfl
@[go_sem] theorem bytesOf_71 : bytesOf Tryd.prog 71 = 8 := by kernel_rfl
@[go_sem] theorem zeroD_71 : zeroD Tryd.prog 71 = [.v .nilFunc] := by kernel_rfl
@[go_sem] theorem okT_73 : okT Tryd.prog 73 = true := by kernel_rfl
@[go_sem] theorem szOf_73 : szOf Tryd.prog 73 = 33 := by kernel_rfl
@[go_sem] theorem aggT_73 : aggT Tryd.prog 73 = true := by kernel_rfl
@[go_sem] theorem undS_73 : (Tryd.prog.underlying 73).isSome = true := by kernel_rfl
@[go_sem] theorem infS_73 : (Tryd.prog.info? 73).isSome = true := by kernel_rfl
@[go_sem] theorem ifaceT_73 : ifaceT Tryd.prog 73 = false := by kernel_rfl
@[go_sem] theorem ptrT_73 : ptrT Tryd.prog 73 = false := by kernel_rfl
@[go_sem] theorem zeroT_73 : zeroT Tryd.prog 73 = true := by kernel_rfl
@[go_sem] theorem zeroOk_73 : zeroOk Tryd.prog 73 = true := by kernel_rfl
@[go_sem] theorem bytesOf_73 : bytesOf Tryd.prog 73 = 56 := by kernel_rfl
@[go_sem] theorem zeroD_73 : zeroD Tryd.prog 73 = [.v (.int .u8 0), .v (.int .u8 0), .v (.int .u8 0), .v (.int .u8 0), .v (.int .u8 0), .v (.int .u8 0), .v (.int .u8 0), .v (.int .u8 0), .v (.int .u8 0), .v (.int .u8 0), .v (.int .u8 0), .v (.int .u8 0), .v (.int .u8 0), .v (.int .u8 0), .v (.int .u8 0), .v (.int .u8 0), .v (.int .u8 0), .v (.int .u8 0), .v (.int .u8 0), .v (.int .u8 0), .v (.int .u8 0), .v (.int .u8 0), .v (.int .u8 0), .v (.int .u8 0), .v (.int .u8 0), .v (.int .u8 0), .v (.int .u8 0), .v (.int .u8 0), .v (.int .u8 0), .v (.int .u8 0), .v (.int .u8 0), .v (.int .u8 0), .sl .full []] := by kernel_rfl
@[go_sem] theorem fld_73_0 : fld Tryd.prog 73 0 = some (0, 37) := by kernel_rfl
@[go_sem] theorem fld_73_1 : fld Tryd.prog 73 1 = some (32, 38) := by kernel_rfl
noncomputable def pl73 : Nat → Option (Nat × Nat) := (placeT Tryd.prog 73).getD fun _ => none
@[go_sem] theorem placeT_73 : placeT Tryd.prog 73 = some pl73 := by kernel_rfl
@[go_sem] theorem pl_73_0 : pl73 0 = some (0, 32) := by kernel_rfl
@[go_sem] theorem pl_73_1 : pl73 1 = some (32, 1) := by kernel_rfl
@[go_sem] theorem okT_75 : okT Tryd.prog 75 = true := by kernel_rfl
@[go_sem] theorem szOf_75 : szOf Tryd.prog 75 = 64 := by kernel_rfl
@[go_sem] theorem aggT_75 : aggT Tryd.prog 75 = true := by kernel_rfl
@[go_sem] theorem undS_75 : (Tryd.prog.underlying 75).isSome = true := by kernel_rfl
@[go_sem] theorem infS_75 : (Tryd.prog.info? 75).isSome = true := by kernel_rfl
@[go_sem] theorem ifaceT_75 : ifaceT Tryd.prog 75 = false := by kernel_rfl
@[go_sem] theorem ptrT_75 : ptrT Tryd.prog 75 = false := by kernel_rfl
@[go_sem] theorem zeroT_75 : zeroT Tryd.prog 75 = true := by kernel_rfl
@[go_sem] theorem zeroOk_75 : zeroOk Tryd.prog 75 = true := by kernel_rfl
@[go_sem] theorem bytesOf_75 : bytesOf Tryd.prog 75 = 64 := by kernel_rfl
@[go_sem] theorem zeroD_75 : zeroD Tryd.prog 75 = [.v (.int .u8 0), .v (.int .u8 0), .v (.int .u8 0), .v (.int .u8 0), .v (.int .u8 0), .v (.int .u8 0), .v (.int .u8 0), .v (.int .u8 0), .v (.int .u8 0), .v (.int .u8 0), .v (.int .u8 0), .v (.int .u8 0), .v (.int .u8 0), .v (.int .u8 0), .v (.int .u8 0), .v (.int .u8 0), .v (.int .u8 0), .v (.int .u8 0), .v (.int .u8 0), .v (.int .u8 0), .v (.int .u8 0), .v (.int .u8 0), .v (.int .u8 0), .v (.int .u8 0), .v (.int .u8 0), .v (.int .u8 0), .v (.int .u8 0), .v (.int .u8 0), .v (.int .u8 0), .v (.int .u8 0), .v (.int .u8 0), .v (.int .u8 0), .v (.int .u8 0), .v (.int .u8 0), .v (.int .u8 0), .v (.int .u8 0), .v (.int .u8 0), .v (.int .u8 0), .v (.int .u8 0), .v (.int .u8 0), .v (.int .u8 0), .v (.int .u8 0), .v (.int .u8 0), .v (.int .u8 0), .v (.int .u8 0), .v (.int .u8 0), .v (.int .u8 0), .v (.int .u8 0), .v (.int .u8 0), .v (.int .u8 0), .v (.int .u8 0), .v (.int .u8 0), .v (.int .u8 0), .v (.int .u8 0), .v (.int .u8 0), .v (.int .u8 0), .v (.int .u8 0), .v (.int .u8 0), .v (.int .u8 0), .v (.int .u8 0), .v (.int .u8 0), .v (.int .u8 0), .v (.int .u8 0), .v (.int .u8 0)] := by kernel_rfl
@[go_sem] theorem fld_75_0 : fld Tryd.prog 75 0 = some (0, 37) := by kernel_rfl
@[go_sem] theorem fld_75_1 : fld Tryd.prog 75 1 = some (32, 37) := by kernel_rfl
noncomputable def pl75 : Nat → Option (Nat × Nat) := (placeT Tryd.prog 75).getD fun _ => none
@[go_sem] theorem placeT_75 : placeT Tryd.prog 75 = some pl75 := by kernel_rfl
@[go_sem] theorem pl_75_0 : pl75 0 = some (0, 32) := by kernel_rfl
@[go_sem] theorem pl_75_1 : pl75 1 = some (32, 32) := by kernel_rfl
@[go_sem] theorem okT_78 : okT Tryd.prog 78 = true := by kernel_rfl
@[go_sem] theorem szOf_78 : szOf Tryd.prog 78 = 1 := by kernel_rfl
@[go_sem] theorem aggT_78 : aggT Tryd.prog 78 = false := by kernel_rfl
@[go_sem] theorem undS_78 : (Tryd.prog.underlying 78).isSome = true := by kernel_rfl
@[go_sem] theorem infS_78 : (Tryd.prog.info? 78).isSome = true := by kernel_rfl
@[go_sem] theorem ifaceT_78 : ifaceT Tryd.prog 78 = false := by kernel_rfl
@[go_sem] theorem ptrT_78 : ptrT Tryd.prog 78 = true := by kernel_rfl
@[go_sem] theorem zeroT_78 : zeroT Tryd.prog 78 = true := by kernel_rfl
@[go_sem] theorem zeroOk_78 : zeroOk Tryd.prog 78 = true := by kernel_rfl
@[go_sem] theorem bytesOf_78 : bytesOf Tryd.prog 78 = 8 := by kernel_rfl
@[go_sem] theorem zeroD_78 : zeroD Tryd.prog 78 = [.v (.pointer none)] := by kernel_rfl
@[go_sem] theorem okT_83 : okT Tryd.prog 83 = true := by kernel_rfl
@[go_sem] theorem szOf_83 : szOf Tryd.prog 83 = 1 := by kernel_rfl
@[go_sem] theorem aggT_83 : aggT Tryd.prog 83 = false := by kernel_rfl
@[go_sem] theorem undS_83 : (Tryd.prog.underlying 83).isSome = true := by kernel_rfl
@[go_sem] theorem infS_83 : (Tryd.prog.info? 83).isSome = true := by kernel_rfl
@[go_sem] theorem ifaceT_83 : ifaceT Tryd.prog 83 = false := by kernel_rfl
@[go_sem] theorem ptrT_83 : ptrT Tryd.prog 83 = false := by kernel_rfl
@[go_sem] theorem zeroT_83 : zeroT Tryd.prog 83 = true := by kernel_rfl
@[go_sem] theorem zeroOk_83 : zeroOk Tryd.prog 83 = true := by kernel_rfl
@[go_sem] theorem bytesOf_83 : bytesOf Tryd.prog 83 = 8 := by kernel_rfl
@[go_sem] theorem zeroD_83 : zeroD Tryd.prog 83 = [.v .nilFunc] := by kernel_rfl
@[go_sem] theorem okT_85 : okT Tryd.prog 85 = true := by kernel_rfl
@[go_sem] theorem szOf_85 : szOf Tryd.prog 85 = 1 := by kernel_rfl
@[go_sem] theorem aggT_85 : aggT Tryd.prog 85 = false := by kernel_rfl
@[go_sem] theorem undS_85 : (Tryd.prog.underlying 85).isSome = true := by kernel_rfl
@[go_sem] theorem infS_85 : (Tryd.prog.info? 85).isSome = true := by kernel_rfl
@[go_sem] theorem ifaceT_85 : ifaceT Tryd.prog 85 = false := by kernel_rfl
@[go_sem] theorem ptrT_85 : ptrT Tryd.prog 85 = false := by kernel_rfl
@[go_sem] theorem zeroT_85 : zeroT Tryd.prog 85 = true := by kernel_rfl
@[go_sem] theorem zeroOk_85 : zeroOk Tryd.prog 85 = true := by kernel_rfl
@[go_sem] theorem bytesOf_85 : bytesOf Tryd.prog 85 = 24 := by kernel_rfl
@[go_sem] theorem zeroD_85 : zeroD Tryd.prog 85 = [.sl .full []] := by kernel_rfl
@[go_sem] theorem elT_85 : elT Tryd.prog 85 = some 39 := by kernel_rfl
@[go_sem] theorem bul_85 (own : Own) (es : List D) (ty : TypeId) (cs : Array Bool) : dbuiltin Tryd.prog .len #[85] ty cs [.sl own es] = some (True, .v (.int .i64 es.length)) := bu_len own es _ ty cs elT_85
@[go_sem] theorem bwl_85 (k off n c : Nat) (ty : TypeId) (cs : Array Bool) : dbuiltin Tryd.prog .len #[85] ty cs [.win k off n c] = some (True, .v (.int .i64 n)) := bu_wlen k off n c _ ty cs elT_85
@[go_sem] theorem bwc_85 (k off n c : Nat) (ty : TypeId) (cs : Array Bool) : dbuiltin Tryd.prog .cap #[85] ty cs [.win k off n c] = some (True, .v (.int .i64 c)) := bu_wcap k off n c _ ty cs elT_85
@[go_sem] theorem bfc_85 (es : List D) (ty : TypeId) (cs : Array Bool) : dbuiltin Tryd.prog .cap #[85] ty cs [.sl .full es] = some (True, .v (.int .i64 es.length)) := bu_fcap es _ ty cs elT_85
@[go_sem] theorem okT_87 : okT Tryd.prog 87 = true := by kernel_rfl
@[go_sem] theorem szOf_87 : szOf Tryd.prog 87 = 1 := by kernel_rfl
@[go_sem] theorem aggT_87 : aggT Tryd.prog 87 = false := by kernel_rfl
@[go_sem] theorem undS_87 : (Tryd.prog.underlying 87).isSome = true := by kernel_rfl
@[go_sem] theorem infS_87 : (Tryd.prog.info? 87).isSome = true := by kernel_rfl
@[go_sem] theorem ifaceT_87 : ifaceT Tryd.prog 87 = false := by kernel_rfl
@[go_sem] theorem ptrT_87 : ptrT Tryd.prog 87 = false := by kernel_rfl
@[go_sem] theorem zeroT_87 : zeroT Tryd.prog 87 = true := by kernel_rfl
@[go_sem] theorem zeroOk_87 : zeroOk Tryd.prog 87 = true := by kernel_rfl
@[go_sem] theorem bytesOf_87 : bytesOf Tryd.prog 87 = 24 := by kernel_rfl
@[go_sem] theorem zeroD_87 : zeroD Tryd.prog 87 = [.sl .full []] := by kernel_rfl
@[go_sem] theorem elT_87 : elT Tryd.prog 87 = some 89 := by kernel_rfl
@[go_sem] theorem bul_87 (own : Own) (es : List D) (ty : TypeId) (cs : Array Bool) : dbuiltin Tryd.prog .len #[87] ty cs [.sl own es] = some (True, .v (.int .i64 es.length)) := bu_len own es _ ty cs elT_87
@[go_sem] theorem bwl_87 (k off n c : Nat) (ty : TypeId) (cs : Array Bool) : dbuiltin Tryd.prog .len #[87] ty cs [.win k off n c] = some (True, .v (.int .i64 n)) := bu_wlen k off n c _ ty cs elT_87
@[go_sem] theorem bwc_87 (k off n c : Nat) (ty : TypeId) (cs : Array Bool) : dbuiltin Tryd.prog .cap #[87] ty cs [.win k off n c] = some (True, .v (.int .i64 c)) := bu_wcap k off n c _ ty cs elT_87
@[go_sem] theorem bfc_87 (es : List D) (ty : TypeId) (cs : Array Bool) : dbuiltin Tryd.prog .cap #[87] ty cs [.sl .full es] = some (True, .v (.int .i64 es.length)) := bu_fcap es _ ty cs elT_87
@[go_sem] theorem okT_89 : okT Tryd.prog 89 = true := by kernel_rfl
@[go_sem] theorem szOf_89 : szOf Tryd.prog 89 = 33 := by kernel_rfl
@[go_sem] theorem aggT_89 : aggT Tryd.prog 89 = true := by kernel_rfl
@[go_sem] theorem undS_89 : (Tryd.prog.underlying 89).isSome = true := by kernel_rfl
@[go_sem] theorem infS_89 : (Tryd.prog.info? 89).isSome = true := by kernel_rfl
@[go_sem] theorem ifaceT_89 : ifaceT Tryd.prog 89 = false := by kernel_rfl
@[go_sem] theorem ptrT_89 : ptrT Tryd.prog 89 = false := by kernel_rfl
@[go_sem] theorem zeroT_89 : zeroT Tryd.prog 89 = true := by kernel_rfl
@[go_sem] theorem zeroOk_89 : zeroOk Tryd.prog 89 = true := by kernel_rfl
@[go_sem] theorem bytesOf_89 : bytesOf Tryd.prog 89 = 40 := by kernel_rfl
@[go_sem] theorem zeroD_89 : zeroD Tryd.prog 89 = [.v (.int .i64 0), .v (.int .u8 0), .v (.int .u8 0), .v (.int .u8 0), .v (.int .u8 0), .v (.int .u8 0), .v (.int .u8 0), .v (.int .u8 0), .v (.int .u8 0), .v (.int .u8 0), .v (.int .u8 0), .v (.int .u8 0), .v (.int .u8 0), .v (.int .u8 0), .v (.int .u8 0), .v (.int .u8 0), .v (.int .u8 0), .v (.int .u8 0), .v (.int .u8 0), .v (.int .u8 0), .v (.int .u8 0), .v (.int .u8 0), .v (.int .u8 0), .v (.int .u8 0), .v (.int .u8 0), .v (.int .u8 0), .v (.int .u8 0), .v (.int .u8 0), .v (.int .u8 0), .v (.int .u8 0), .v (.int .u8 0), .v (.int .u8 0), .v (.int .u8 0)] := by kernel_rfl
@[go_sem] theorem fld_89_0 : fld Tryd.prog 89 0 = some (0, 3) := by kernel_rfl
@[go_sem] theorem fld_89_1 : fld Tryd.prog 89 1 = some (1, 37) := by kernel_rfl
@[go_sem] theorem okT_92 : okT Tryd.prog 92 = true := by kernel_rfl
@[go_sem] theorem szOf_92 : szOf Tryd.prog 92 = 1 := by kernel_rfl
@[go_sem] theorem aggT_92 : aggT Tryd.prog 92 = false := by kernel_rfl
@[go_sem] theorem undS_92 : (Tryd.prog.underlying 92).isSome = true := by kernel_rfl
@[go_sem] theorem infS_92 : (Tryd.prog.info? 92).isSome = true := by kernel_rfl
@[go_sem] theorem ifaceT_92 : ifaceT Tryd.prog 92 = false := by kernel_rfl
@[go_sem] theorem ptrT_92 : ptrT Tryd.prog 92 = false := by kernel_rfl
@[go_sem] theorem zeroT_92 : zeroT Tryd.prog 92 = true := by kernel_rfl
@[go_sem] theorem zeroOk_92 : zeroOk Tryd.prog 92 = true := by kernel_rfl
@[go_sem] theorem bytesOf_92 : bytesOf Tryd.prog 92 = 8 := by kernel_rfl
@[go_sem] theorem zeroD_92 : zeroD Tryd.prog 92 = [.v (.pointer none)] := by kernel_rfl
@[go_sem] theorem okT_93 : okT Tryd.prog 93 = true := by kernel_rfl
@[go_sem] theorem szOf_93 : szOf Tryd.prog 93 = 1 := by kernel_rfl
@[go_sem] theorem aggT_93 : aggT Tryd.prog 93 = false := by kernel_rfl
@[go_sem] theorem undS_93 : (Tryd.prog.underlying 93).isSome = true := by kernel_rfl
@[go_sem] theorem infS_93 : (Tryd.prog.info? 93).isSome = true := by kernel_rfl
@[go_sem] theorem ifaceT_93 : ifaceT Tryd.prog 93 = false := by kernel_rfl
@[go_sem] theorem ptrT_93 : ptrT Tryd.prog 93 = false := by kernel_rfl
@[go_sem] theorem zeroT_93 : zeroT Tryd.prog 93 = true := by kernel_rfl
@[go_sem] theorem zeroOk_93 : zeroOk Tryd.prog 93 = true := by kernel_rfl
@[go_sem] theorem bytesOf_93 : bytesOf Tryd.prog 93 = 8 := by kernel_rfl
@[go_sem] theorem zeroD_93 : zeroD Tryd.prog 93 = [.v (.int .u64 0)] := by kernel_rfl
@[go_sem] theorem okT_95 : okT Tryd.prog 95 = true := by kernel_rfl
@[go_sem] theorem szOf_95 : szOf Tryd.prog 95 = 3 := by kernel_rfl
@[go_sem] theorem aggT_95 : aggT Tryd.prog 95 = true := by kernel_rfl
@[go_sem] theorem undS_95 : (Tryd.prog.underlying 95).isSome = true := by kernel_rfl
@[go_sem] theorem infS_95 : (Tryd.prog.info? 95).isSome = true := by kernel_rfl
@[go_sem] theorem ifaceT_95 : ifaceT Tryd.prog 95 = false := by kernel_rfl
@[go_sem] theorem ptrT_95 : ptrT Tryd.prog 95 = false := by kernel_rfl
@[go_sem] theorem zeroT_95 : zeroT Tryd.prog 95 = true := by kernel_rfl
@[go_sem] theorem zeroOk_95 : zeroOk Tryd.prog 95 = true := by kernel_rfl
@[go_sem] theorem bytesOf_95 : bytesOf Tryd.prog 95 = 24 := by kernel_rfl
@[go_sem] theorem zeroD_95 : zeroD Tryd.prog 95 = [.v (.pointer none), .v (.pointer none), .v (.int .u64 0)] := by kernel_rfl
@[go_sem] theorem fld_95_0 : fld Tryd.prog 95 0 = some (0, 17) := by kernel_rfl
@[go_sem] theorem fld_95_1 : fld Tryd.prog 95 1 = some (1, 92) := by kernel_rfl
@[go_sem] theorem fld_95_2 : fld Tryd.prog 95 2 = some (2, 93) := by kernel_rfl
@[go_sem] theorem okT_98 : okT Tryd.prog 98 = true := by kernel_rfl
@[go_sem] theorem szOf_98 : szOf Tryd.prog 98 = 1 := by kernel_rfl
@[go_sem] theorem aggT_98 : aggT Tryd.prog 98 = false := by kernel_rfl
@[go_sem] theorem undS_98 : (Tryd.prog.underlying 98).isSome = true := by kernel_rfl
@[go_sem] theorem infS_98 : (Tryd.prog.info? 98).isSome = true := by kernel_rfl
@[go_sem] theorem ifaceT_98 : ifaceT Tryd.prog 98 = true := by kernel_rfl
@[go_sem] theorem ptrT_98 : ptrT Tryd.prog 98 = false := by kernel_rfl
@[go_sem] theorem zeroT_98 : zeroT Tryd.prog 98 = true := by kernel_rfl
@[go_sem] theorem zeroOk_98 : zeroOk Tryd.prog 98 = true := by kernel_rfl
@[go_sem] theorem bytesOf_98 : bytesOf Tryd.prog 98 = 16 := by kernel_rfl
@[go_sem] theorem zeroD_98 : zeroD Tryd.prog 98 = [.v .nilIface] := by kernel_rfl
@[go_sem] theorem okT_99 : okT Tryd.prog 99 = true := by kernel_rfl
@[go_sem] theorem szOf_99 : szOf Tryd.prog 99 = 1 := by kernel_rfl
@[go_sem] theorem aggT_99 : aggT Tryd.prog 99 = false := by kernel_rfl
@[go_sem] theorem undS_99 : (Tryd.prog.underlying 99).isSome = true := by kernel_rfl
@[go_sem] theorem infS_99 : (Tryd.prog.info? 99).isSome = true := by kernel_rfl
@[go_sem] theorem ifaceT_99 : ifaceT Tryd.prog 99 = false := by kernel_rfl
@[go_sem] theorem ptrT_99 : ptrT Tryd.prog 99 = false := by kernel_rfl
@[go_sem] theorem zeroT_99 : zeroT Tryd.prog 99 = true := by kernel_rfl
@[go_sem] theorem zeroOk_99 : zeroOk Tryd.prog 99 = true := by kernel_rfl
@[go_sem] theorem bytesOf_99 : bytesOf Tryd.prog 99 = 8 := by kernel_rfl
@[go_sem] theorem zeroD_99 : zeroD Tryd.prog 99 = [.v .nilFunc] := by kernel_rfl
@[go_sem] theorem okT_100 : okT Tryd.prog 100 = true := by kernel_rfl
@[go_sem] theorem szOf_100 : szOf Tryd.prog 100 = 1 := by kernel_rfl
@[go_sem] theorem aggT_100 : aggT Tryd.prog 100 = false := by kernel_rfl
@[go_sem] theorem undS_100 : (Tryd.prog.underlying 100).isSome = true := by kernel_rfl
@[go_sem] theorem infS_100 : (Tryd.prog.info? 100).isSome = true := by kernel_rfl
@[go_sem] theorem ifaceT_100 : ifaceT Tryd.prog 100 = false := by kernel_rfl
@[go_sem] theorem ptrT_100 : ptrT Tryd.prog 100 = false := by kernel_rfl
@[go_sem] theorem zeroT_100 : zeroT Tryd.prog 100 = true := by kernel_rfl
@[go_sem] theorem zeroOk_100 : zeroOk Tryd.prog 100 = true := by kernel_rfl
@[go_sem] theorem bytesOf_100 : bytesOf Tryd.prog 100 = 1 := by kernel_rfl
@[go_sem] theorem zeroD_100 : zeroD Tryd.prog 100 = [.v (.int .u8 0)] := by kernel_rfl
@[go_sem] theorem okT_101 : okT Tryd.prog 101 = true := by kernel_rfl
@[go_sem] theorem szOf_101 : szOf Tryd.prog 101 = 1 := by kernel_rfl
@[go_sem] theorem aggT_101 : aggT Tryd.prog 101 = false := by kernel_rfl
@[go_sem] theorem undS_101 : (Tryd.prog.underlying 101).isSome = true := by kernel_rfl
@[go_sem] theorem infS_101 : (Tryd.prog.info? 101).isSome = true := by kernel_rfl
@[go_sem] theorem ifaceT_101 : ifaceT Tryd.prog 101 = false := by kernel_rfl
@[go_sem] theorem ptrT_101 : ptrT Tryd.prog 101 = false := by kernel_rfl
@[go_sem] theorem zeroT_101 : zeroT Tryd.prog 101 = true := by kernel_rfl
@[go_sem] theorem zeroOk_101 : zeroOk Tryd.prog 101 = true := by kernel_rfl
@[go_sem] theorem bytesOf_101 : bytesOf Tryd.prog 101 = 8 := by kernel_rfl
@[go_sem] theorem zeroD_101 : zeroD Tryd.prog 101 = [.v .nilFunc] := by kernel_rfl
@[go_sem] theorem okT_106 : okT Tryd.prog 106 = true := by kernel_rfl
@[go_sem] theorem szOf_106 : szOf Tryd.prog 106 = 1 := by kernel_rfl
@[go_sem] theorem aggT_106 : aggT Tryd.prog 106 = false := by kernel_rfl
@[go_sem] theorem undS_106 : (Tryd.prog.underlying 106).isSome = true := by kernel_rfl
@[go_sem] theorem infS_106 : (Tryd.prog.info? 106).isSome = true := by kernel_rfl
@[go_sem] theorem ifaceT_106 : ifaceT Tryd.prog 106 = false := by kernel_rfl
@[go_sem] theorem ptrT_106 : ptrT Tryd.prog 106 = false := by kernel_rfl
@[go_sem] theorem zeroT_106 : zeroT Tryd.prog 106 = true := by kernel_rfl
@[go_sem] theorem zeroOk_106 : zeroOk Tryd.prog 106 = true := by kernel_rfl
@[go_sem] theorem bytesOf_106 : bytesOf Tryd.prog 106 = 8 := by kernel_rfl
@[go_sem] theorem zeroD_106 : zeroD Tryd.prog 106 = [.v (.int .u64 0)] := by kernel_rfl
@[go_sem] theorem okT_122 : okT Tryd.prog 122 = true := by kernel_rfl
@[go_sem] theorem szOf_122 : szOf Tryd.prog 122 = 1 := by kernel_rfl
@[go_sem] theorem aggT_122 : aggT Tryd.prog 122 = false := by kernel_rfl
@[go_sem] theorem undS_122 : (Tryd.prog.underlying 122).isSome = true := by kernel_rfl
@[go_sem] theorem infS_122 : (Tryd.prog.info? 122).isSome = true := by kernel_rfl
@[go_sem] theorem ifaceT_122 : ifaceT Tryd.prog 122 = false := by kernel_rfl
@[go_sem] theorem ptrT_122 : ptrT Tryd.prog 122 = false := by kernel_rfl
@[go_sem] theorem zeroT_122 : zeroT Tryd.prog 122 = true := by kernel_rfl
@[go_sem] theorem zeroOk_122 : zeroOk Tryd.prog 122 = true := by kernel_rfl
@[go_sem] theorem bytesOf_122 : bytesOf Tryd.prog 122 = 24 := by kernel_rfl
@[go_sem] theorem zeroD_122 : zeroD Tryd.prog 122 = [.sl .full []] := by kernel_rfl
@[go_sem] theorem elT_122 : elT Tryd.prog 122 = some 27 := by kernel_rfl
@[go_sem] theorem bul_122 (own : Own) (es : List D) (ty : TypeId) (cs : Array Bool) : dbuiltin Tryd.prog .len #[122] ty cs [.sl own es] = some (True, .v (.int .i64 es.length)) := bu_len own es _ ty cs elT_122
@[go_sem] theorem bwl_122 (k off n c : Nat) (ty : TypeId) (cs : Array Bool) : dbuiltin Tryd.prog .len #[122] ty cs [.win k off n c] = some (True, .v (.int .i64 n)) := bu_wlen k off n c _ ty cs elT_122
@[go_sem] theorem bwc_122 (k off n c : Nat) (ty : TypeId) (cs : Array Bool) : dbuiltin Tryd.prog .cap #[122] ty cs [.win k off n c] = some (True, .v (.int .i64 c)) := bu_wcap k off n c _ ty cs elT_122
@[go_sem] theorem bfc_122 (es : List D) (ty : TypeId) (cs : Array Bool) : dbuiltin Tryd.prog .cap #[122] ty cs [.sl .full es] = some (True, .v (.int .i64 es.length)) := bu_fcap es _ ty cs elT_122
@[go_sem] theorem okT_125 : okT Tryd.prog 125 = true := by kernel_rfl
@[go_sem] theorem szOf_125 : szOf Tryd.prog 125 = 1 := by kernel_rfl
@[go_sem] theorem aggT_125 : aggT Tryd.prog 125 = false := by kernel_rfl
@[go_sem] theorem undS_125 : (Tryd.prog.underlying 125).isSome = true := by kernel_rfl
@[go_sem] theorem infS_125 : (Tryd.prog.info? 125).isSome = true := by kernel_rfl
@[go_sem] theorem ifaceT_125 : ifaceT Tryd.prog 125 = false := by kernel_rfl
@[go_sem] theorem ptrT_125 : ptrT Tryd.prog 125 = false := by kernel_rfl
@[go_sem] theorem zeroT_125 : zeroT Tryd.prog 125 = true := by kernel_rfl
@[go_sem] theorem zeroOk_125 : zeroOk Tryd.prog 125 = true := by kernel_rfl
@[go_sem] theorem bytesOf_125 : bytesOf Tryd.prog 125 = 8 := by kernel_rfl
@[go_sem] theorem zeroD_125 : zeroD Tryd.prog 125 = [.v (.int .i64 0)] := by kernel_rfl
@[go_sem] theorem okT_133 : okT Tryd.prog 133 = true := by kernel_rfl
@[go_sem] theorem szOf_133 : szOf Tryd.prog 133 = 1 := by kernel_rfl
@[go_sem] theorem aggT_133 : aggT Tryd.prog 133 = false := by kernel_rfl
@[go_sem] theorem undS_133 : (Tryd.prog.underlying 133).isSome = true := by kernel_rfl
@[go_sem] theorem infS_133 : (Tryd.prog.info? 133).isSome = true := by kernel_rfl
@[go_sem] theorem ifaceT_133 : ifaceT Tryd.prog 133 = false := by kernel_rfl
@[go_sem] theorem ptrT_133 : ptrT Tryd.prog 133 = false := by kernel_rfl
@[go_sem] theorem zeroT_133 : zeroT Tryd.prog 133 = true := by kernel_rfl
@[go_sem] theorem zeroOk_133 : zeroOk Tryd.prog 133 = true := by kernel_rfl
@[go_sem] theorem bytesOf_133 : bytesOf Tryd.prog 133 = 4 := by kernel_rfl
@[go_sem] theorem zeroD_133 : zeroD Tryd.prog 133 = [.v (.int .u32 0)] := by kernel_rfl
@[go_sem] theorem okT_135 : okT Tryd.prog 135 = true := by kernel_rfl
@[go_sem] theorem szOf_135 : szOf Tryd.prog 135 = 1 := by kernel_rfl
@[go_sem] theorem aggT_135 : aggT Tryd.prog 135 = false := by kernel_rfl
@[go_sem] theorem undS_135 : (Tryd.prog.underlying 135).isSome = true := by kernel_rfl
@[go_sem] theorem infS_135 : (Tryd.prog.info? 135).isSome = true := by kernel_rfl
@[go_sem] theorem ifaceT_135 : ifaceT Tryd.prog 135 = false := by kernel_rfl
@[go_sem] theorem ptrT_135 : ptrT Tryd.prog 135 = false := by kernel_rfl
@[go_sem] theorem zeroT_135 : zeroT Tryd.prog 135 = true := by kernel_rfl
@[go_sem] theorem zeroOk_135 : zeroOk Tryd.prog 135 = true := by kernel_rfl
@[go_sem] theorem bytesOf_135 : bytesOf Tryd.prog 135 = 8 := by kernel_rfl
@[go_sem] theorem zeroD_135 : zeroD Tryd.prog 135 = [.v (.int .u64 0)] := by kernel_rfl
@[go_sem] theorem okT_138 : okT Tryd.prog 138 = true := by kernel_rfl
@[go_sem] theorem szOf_138 : szOf Tryd.prog 138 = 1 := by kernel_rfl
@[go_sem] theorem aggT_138 : aggT Tryd.prog 138 = false := by kernel_rfl
@[go_sem] theorem undS_138 : (Tryd.prog.underlying 138).isSome = true := by kernel_rfl
@[go_sem] theorem infS_138 : (Tryd.prog.info? 138).isSome = true := by kernel_rfl
@[go_sem] theorem ifaceT_138 : ifaceT Tryd.prog 138 = false := by kernel_rfl
@[go_sem] theorem ptrT_138 : ptrT Tryd.prog 138 = false := by kernel_rfl
@[go_sem] theorem zeroT_138 : zeroT Tryd.prog 138 = true := by kernel_rfl
@[go_sem] theorem zeroOk_138 : zeroOk Tryd.prog 138 = true := by kernel_rfl
@[go_sem] theorem bytesOf_138 : bytesOf Tryd.prog 138 = 8 := by kernel_rfl
@[go_sem] theorem zeroD_138 : zeroD Tryd.prog 138 = [.v (.int .u64 0)] := by kernel_rfl
@[go_sem] theorem okT_142 : okT Tryd.prog 142 = true := by kernel_rfl
@[go_sem] theorem szOf_142 : szOf Tryd.prog 142 = 1 := by kernel_rfl
@[go_sem] theorem aggT_142 : aggT Tryd.prog 142 = false := by kernel_rfl
@[go_sem] theorem undS_142 : (Tryd.prog.underlying 142).isSome = true := by kernel_rfl
@[go_sem] theorem infS_142 : (Tryd.prog.info? 142).isSome = true := by kernel_rfl
@[go_sem] theorem ifaceT_142 : ifaceT Tryd.prog 142 = false := by kernel_rfl
@[go_sem] theorem ptrT_142 : ptrT Tryd.prog 142 = true := by kernel_rfl
@[go_sem] theorem zeroT_142 : zeroT Tryd.prog 142 = true := by kernel_rfl
@[go_sem] theorem zeroOk_142 : zeroOk Tryd.prog 142 = true := by kernel_rfl
@[go_sem] theorem bytesOf_142 : bytesOf Tryd.prog 142 = 8 := by kernel_rfl
@[go_sem] theorem zeroD_142 : zeroD Tryd.prog 142 = [.v (.pointer none)] := by kernel_rfl
theorem mixed : Tryd.prog.follows .mixedOrders = true := by kernel_rfl
end Go.Proofs.YtonncfminojejaaDoor

namespace Go.Proofs.YtonncfminojejaaDoor
open Go.RowKit

def u64D (n : Nat) : D := .v (.int .u64 (n : Int))
/-! What fits the machine's bounds. -/
section
variable {P : Program} {w : World} {η : Names} {X : Nat → Nat → Prop}
theorem rep_structs {F : Nat → Prop} {α : Type} (e : α → D) (z : Nat) (hz : 0 < z) (hX : ∀ b i, F b → X b i) {A : Option Addr} {c b o : Nat} {l : List α} {C : Nat → List Value} (hA : 0 < l.length → A = some ⟨b, o, none⟩ ∧ F b)
    (hC : ∀ i a, l[i]? = some a → (C i).length = z ∧ w.rangeAt b (o + i * z) (C i)) (hR : ∀ i a, l[i]? = some a → Rep P w η X (e a) (.agg (C i).toArray)) (hagg : ∀ a, (e a).isAgg = true) (hc : l.length ≤ c) (hn : l.length ≤ 140737488351232) :
    Rep P w η X (.sl .no (l.map e)) (.slice A l.length c) := by
  simp only [Rep]
  refine ⟨A, c, by rw [List.length_map], by rw [List.length_map]; exact hc, by rw [List.length_map]; omega, trivial, fun h0 => ?_⟩
  rw [List.length_map] at h0
  refine ⟨b, o, z, (hA h0).1, hz, RepE.mk fun i d hd => ?_⟩
  rw [List.getElem?_map] at hd
  cases hi : l[i]? with
  | none => rw [hi] at hd; cases hd
  | some a =>
    rw [hi] at hd
    injection hd with hd
    subst hd
    have h1 := hR i a hi
    obtain ⟨h2, h3⟩ := hC i a hi
    cases he : e a with
    | agg ds =>
      rw [he] at h1
      simp only [Rep] at h1
      obtain ⟨vs, h4, h5, h6⟩ := h1
      have : C i = vs := by
        injection h4 with h4
        have := congrArg Array.toList h4
        simpa using this
      rw [this] at h2 h3
      have hlen : ds.length = z := by rw [← h5.length, h2]
      exact ⟨by simp only [RepA]; exact ⟨hlen, RepC.mk h5 h3 (fun j _ => hX _ _ (hA h0).2) h6⟩, fun h => by simp [D.isAgg] at h⟩
    | _ => have := hagg a; rw [he] at this; simp [D.isAgg] at this
end
/-! ### Over memory, and over trees -/
section
variable {P : Program} {base : Nat} {S : St} {η : Names} {w : World}
theorem goes_below (h : Mem P base S η w) {w' : World} (hb : Below w.heap.size w w') (hmo : mo = true → w.drawn ≤ w'.drawn) : Goes P base S η w S η w' := by
  have K : Keep (fun _ => True) w η (Fix P S η) w' η (Fix P S η) := ⟨hb.size, fun b i hlt hx => ⟨hx, hb.cell (p := ⟨b, i, none⟩) hlt⟩, fun _ _ _ hx => hx, fun b cur _ hx => ⟨cur, by rw [hb.block b ((Array.getElem?_eq_some_iff.1 hx).1)]; exact hx, rfl⟩⟩
  refine ⟨⟨Nat.le_trans h.base_ hb.size, h.dead, h.fresh, h.live, h.inj, fun k b hk => ⟨(h.in_ k b hk).1, Nat.lt_of_lt_of_le (h.in_ k b hk).2 hb.size⟩, fun k t cs b h1 h2 => ?_, fun k e n b h1 h2 => ?_, h.glob.below (hb.mono h.base_)⟩, K, hb.mono h.base_, hmo, Loops.of_below hb⟩
  · obtain ⟨vs, k1, k2, k3⟩ := h.box k t cs b h1 h2
    exact ⟨vs, by rw [hb.block b (h.in_ k b h2).2]; exact k1, RepL.keep K (allL_true _) k2, k3⟩
  · obtain ⟨cur, k1, k2⟩ := h.row k e n b h1 h2
    exact ⟨cur, by rw [hb.block b (h.in_ k b h2).2]; exact k1, k2⟩
def St.nil : St := ⟨0, fun _ => none⟩
theorem mem_nil (w : World) (hg : GlobOk w.heap.size w) : Mem P w.heap.size St.nil (fun _ => none) w := ⟨Nat.le_refl _, fun _ _ => rfl, fun _ _ => rfl, (fun _ _ _ h => by cases h), (fun _ _ _ h => by cases h), (fun _ _ h => by cases h), (fun _ _ _ _ h => by cases h), (fun _ _ _ _ h => by cases h), hg⟩
theorem fix_nil (b i : Nat) : Fix P St.nil (fun _ => none) b i := fun _ _ h => by cases h
end
theorem empty_toList : (⟨#[]⟩ : ByteArray).toList = [] := by rw [Go.Lib.toList_data]
attribute [go_sem] empty_toList u64D
end Go.Proofs.YtonncfminojejaaDoor

namespace Go.Proofs.YtonncfminojejaaDoor
open Go.ChangeShapes Go.WideShapes Go.ChangeAt Go.RowKit Go.Deep Go.Joins
section
variable {H : Type} {enc : TypeId × Value → H} {w : World}
theorem open_structs_trod {P : Program} {α : Type} (e : α → D) {t el : TypeId} {size bytes : Nat} (ht : P.underlying t = some (.slice el)) (hc : P.cellsOf el = size) (hs0 : 0 < size) (hby : P.bytesOf el = bytes) (hb0 : 0 < bytes) (Q : α → List Value → Prop)
    (elem : ∀ (fuel : Nat) (cs : List Value) (x : DataW H × List MemPlace), DataW.trod enc P w 0 (fun _ => true) true fuel el cs = some x → Sized P el x.1 → cs.length = size → ∃ d, Q d cs)
    (hw : ∀ a, (e a).width = size) (hag : ∀ a, (e a).isAgg = true) (hrep : ∀ d cs, Q d cs → ∀ (η : Names) (X : Nat → Nat → Prop), (∀ b i, X b i) → Rep P w η X (e d) (.agg cs.toArray))
    {fuel : Nat} {cs : List Value} {x : DataW H × List MemPlace} (h : DataW.trod enc P w 0 (fun _ => true) true fuel t cs = some x) (hs : Sized P t x.1) :
    ∃ l : List α, (∀ a ∈ l, ∃ cs, Q a cs) ∧ l.length ≤ 140737488351232 ∧ ∃ u, cs = [u] ∧ ∀ (η : Names) (X : Nat → Nat → Prop), (∀ b i, X b i) → Rep P w η X (.sl .no (l.map e)) u := by
  obtain ⟨A, c, l, hcs, hlc, hr, hb⟩ := open_rows_trod (α := α × List Value) ht hc hs0 hby hb0 (fun b o d => d.2.length = size ∧ Q d.1 d.2 ∧ w.rangeAt b o d.2) (fun fuel cs x b o _ hx hsx hlen hcell => by
    obtain ⟨d, hd⟩ := elem fuel cs x hx hsx hlen
    exact ⟨(d, cs), hlen, hd, hcell⟩) h hs
  have hbb : l.length ≤ 140737488351232 := by
    have : c * 1 ≤ c * bytes := Nat.mul_le_mul_left _ hb0
    omega
  refine ⟨l.map (·.1), fun a ha => ?_, by rw [List.length_map]; exact hbb, _, hcs, fun η X hX => ?_⟩
  · obtain ⟨d, hd, rfl⟩ := List.mem_map.1 ha
    obtain ⟨i, hi, rfl⟩ := List.getElem_of_mem hd
    obtain ⟨b, o, _, _, hf⟩ := hr (by omega)
    exact ⟨_, (hf i _ (List.getElem?_eq_getElem hi)).2.1⟩
  · rcases Nat.eq_zero_or_pos l.length with h0 | h0
    · obtain rfl : l = [] := List.eq_nil_of_length_eq_zero h0
      simp only [Rep, List.map_nil, List.length_nil]
      exact ⟨A, c, rfl, Nat.zero_le _, by omega, trivial, fun h => absurd h (by omega)⟩
    · obtain ⟨b, o, rfl, hbl, hf⟩ := hr h0
      have hget : ∀ (i : Nat) (a : α), (l.map (·.1))[i]? = some a → ∃ C, l[i]? = some (a, C) ∧ ((l[i]?.map (·.2)).getD []) = C := by
        intro i a ha
        rw [List.getElem?_map] at ha
        cases hi : l[i]? with
        | none => rw [hi] at ha; cases ha
        | some d =>
          rw [hi] at ha
          obtain ⟨d1, d2⟩ := d
          simp at ha
          exact ⟨d2, by rw [ha], rfl⟩
      have hlen : l.length = (l.map (·.1)).length := by simp
      rw [hlen] at hlc hbb ⊢
      refine rep_structs (F := (· < w.heap.size)) e size hs0 (fun b i _ => hX b i) (b := b) (o := o) (C := fun i => (l[i]?.map (·.2)).getD []) (fun _ => ⟨rfl, hbl⟩) (fun i a ha => ?_) (fun i a ha => ?_) hag hlc hbb
      · obtain ⟨C, h1, h2⟩ := hget i a ha
        simp only [h2]
        have := hf i _ h1
        exact ⟨this.1, this.2.2⟩
      · obtain ⟨C, h1, h2⟩ := hget i a ha
        simp only [h2]
        exact hrep a C (hf i _ h1).2.1 η X hX
theorem open_structs {P : Program} {α : Type} (e : α → D) {t el : TypeId} {size bytes : Nat} (ht : P.underlying t = some (.slice el)) (hc : P.cellsOf el = size) (hs0 : 0 < size) (hby : P.bytesOf el = bytes) (hb0 : 0 < bytes) (Q : α → List Value → Prop)
    (elem : ∀ (fuel : Nat) (cs : List Value) (x : DataW H × List MemPlace), DataW.trod enc P w 0 (fun _ => true) true fuel el cs = some x → Sized P el x.1 → cs.length = size → ∃ d, Q d cs)
    (hw : ∀ a, (e a).width = size) (hag : ∀ a, (e a).isAgg = true) (hrep : ∀ d cs, Q d cs → ∀ (η : Names) (X : Nat → Nat → Prop), (∀ b i, X b i) → Rep P w η X (e d) (.agg cs.toArray))
    {v : Value} {d : DataW H} {p : List MemPlace} {W : World} {base : Nat} (h : DataW.Trod enc P w 0 (fun _ => true) true t v d p) (hs : Sized P t d) (hk : Value.okWide P W .any base t v) :
    ∃ l : List α, (∀ a ∈ l, ∃ cs, Q a cs) ∧ l.length ≤ 140737488351232 ∧ ∀ (η : Names) (X : Nat → Nat → Prop), (∀ b i, X b i) → Rep P w η X (.sl .no (l.map e)) v := by
  obtain ⟨a, n, c, rfl⟩ := okWide_slice ht hk
  obtain ⟨fuel, h⟩ := h
  obtain ⟨l, h1, h2, u, e, h3⟩ := open_structs_trod e ht hc hs0 hby hb0 Q elem hw hag hrep h hs
  obtain rfl : Value.slice a n c = u := by simpa [Value.cells] using e
  exact ⟨l, h1, h2, h3⟩
theorem open_cells_trod {P : Program} {α : Type} (g : α → Value) (hg : ∀ a, (g a).oneCell' = true) {t el : TypeId} {bytes : Nat} (ht : P.underlying t = some (.slice el)) (hc : P.cellsOf el = 1) (hby : P.bytesOf el = bytes) (hb0 : 0 < bytes) (Q : α → Prop)
    (elem : ∀ (fuel : Nat) (u : Value) (x : DataW H × List MemPlace), DataW.trod enc P w 0 (fun _ => true) true fuel el [u] = some x → Sized P el x.1 → ∃ d, Q d ∧ u = g d)
    {fuel : Nat} {cs : List Value} {x : DataW H × List MemPlace} (h : DataW.trod enc P w 0 (fun _ => true) true fuel t cs = some x) (hs : Sized P t x.1) :
    ∃ l : List α, (∀ a ∈ l, Q a) ∧ l.length ≤ 140737488351232 ∧ ∃ u, cs = [u] ∧ ∀ (η : Names) (X : Nat → Nat → Prop), (∀ b i, X b i) → Rep P w η X (.sl .no (l.map fun a => .v (g a))) u := by
  obtain ⟨A, c, l, hcs, hlc, hr, hb⟩ := open_rows_trod (α := α) ht hc (by omega) hby hb0 (fun b o a => Q a ∧ w.cell? ⟨b, o, none⟩ = some (g a)) (fun fuel cs x b o _ hx hsx hlen hcell => by
    match cs, hlen with
    | [u], _ =>
      obtain ⟨d, hd, rfl⟩ := elem fuel u x hx hsx
      exact ⟨d, hd, hcell 0 _ rfl⟩) h hs
  have hbb : l.length ≤ 140737488351232 := by
    have : c * 1 ≤ c * bytes := Nat.mul_le_mul_left _ hb0
    omega
  refine ⟨l, fun a ha => ?_, hbb, _, hcs, fun η X hX => ?_⟩
  · obtain ⟨i, hi, rfl⟩ := List.getElem_of_mem ha
    obtain ⟨b, o, _, _, hf⟩ := hr (by omega)
    exact (hf i _ (List.getElem?_eq_getElem hi)).1
  · simp only [Rep]
    refine ⟨A, c, by rw [List.length_map], by rw [List.length_map]; exact hlc, by rw [List.length_map]; omega, trivial, fun h0 => ?_⟩
    rw [List.length_map] at h0
    obtain ⟨b, o, e, hbl, hf⟩ := hr h0
    refine ⟨b, o, 1, e, by omega, RepE.mk fun i d hd => ?_⟩
    rw [List.getElem?_map] at hd
    cases hi : l[i]? with
    | none => rw [hi] at hd; cases hd
    | some a =>
      rw [hi] at hd
      injection hd with hd
      subst hd
      exact ⟨by simp only [RepA], fun _ => ⟨rfl, hX _ _, g a, (hf i a hi).2, hg a, by simp only [Rep]⟩⟩
theorem open_num {P : Program} {t : TypeId} {k : IntKind} (ht : P.underlying t = some (.int k)) {v : Value} {d : DataW H} {p : List MemPlace} {W : World} {base : Nat} (hk : Value.okWide P W .any base t v) : ∃ n : Int, k.min ≤ n ∧ n ≤ k.max ∧ v = .int k n := by
  simp only [Value.okWide, Cell.okWide, ht] at hk
  unfold Cell.ok at hk
  rw [ht] at hk
  cases v with
  | int k' n =>
    simp only at hk
    obtain ⟨rfl, h⟩ := hk
    exact ⟨n, h.1, h.2, rfl⟩
  | _ => simp at hk
end
end Go.Proofs.YtonncfminojejaaDoor

namespace Go.Proofs.YtonncfminojejaaDoor
open Go.RowKit

theorem ob_hit {S : St} {o : Ob} {k : Nat} (h : k = S.next) : (S.add o).ob k = some o := by rw [add_ob, if_pos h]
theorem ob_skip {S : St} {o : Ob} {k : Nat} (h : k ≠ S.next) : (S.add o).ob k = S.ob k := by rw [add_ob, if_neg h]
theorem ob_set {S : St} {o : Ob} {k j : Nat} (h : j = k) : (S.set k o).ob j = some o := by rw [set_ob, if_pos h]
theorem ob_old {S : St} {o : Ob} {k j : Nat} (h : j ≠ k) : (S.set k o).ob j = S.ob j := by rw [set_ob, if_neg h]
theorem drop_next (S : St) (g : Nat) : (S.drop g).next = S.next := Eq.trans (Eq.refl _) (Eq.refl _)
theorem ob_drop {S : St} {g k : Nat} (h : k ≠ g) : (S.drop g).ob k = S.ob k := by simp only [St.drop, if_neg h]
theorem int_zero : ((0 : Nat) : Int) = 0 := Eq.trans (Eq.refl _) (Eq.refl _)
attribute [go_sem] ob_hit ob_skip ob_set ob_old ob_drop drop_next getD_map Int.natCast_nonneg int_zero beq_self_eq_true Int.toNat_zero List.range_zero List.mem_cons List.not_mem_nil or_false forall_eq forall_eq_or_imp false_implies implies_true Option.isSome_some bnd or_true Int.toNat_one Int.le_refl ge_iff_le gt_iff_lt Nat.sub_zero
theorem cells_win_ (k off n c : Nat) : (D.win k off n c).cells = [D.win k off n c] := Eq.trans (Eq.refl _) (Eq.refl _)
theorem okCell_win_ (k off n c : Nat) : (D.win k off n c).okCell = true := Eq.trans (Eq.refl _) (Eq.refl _)
attribute [go_sem] cells_win_ okCell_win_
/-! What is written. -/
def dstOk (W : Nat → Bool) : Option Tmp → Bool
  | none => true
  | some t => W t
def wrOk (W : Nat → Bool) : Code → Bool
  | .region _ ops _ => ops.all fun o => dstOk W o.dst
  | .seq x y => wrOk W x && wrOk W y
  | .cond _ x y => wrOk W x && wrOk W y
  | .block _ c => wrOk W c
  | .loop c => wrOk W c
  | _ => true
def Off (W : Nat → Bool) (f f' : Fm) : Prop := ∀ t, W t = false → f' t = f t
theorem Off.refl (W : Nat → Bool) (f : Fm) : Off W f f := fun _ _ => rfl
theorem Off.trans {W : Nat → Bool} {f g h : Fm} (a : Off W f g) (b : Off W g h) : Off W f h := fun t ht => (b t ht).trans (a t ht)
theorem Off.put {W : Nat → Bool} {f g : Fm} (a : Off W f g) {dst : Option Tmp} (hd : dstOk W dst = true) (d : D) : Off W f (put g dst d) := fun t ht => by
  rw [put_same (fun e => by subst e; simp only [dstOk] at hd; rw [hd] at ht; cases ht)]
  exact a t ht
theorem St.WF.add {S : St} (h : S.WF) (o : Ob) : (S.add o).WF := fun k hk => by
  have hk' : S.next + 1 ≤ k := hk
  simp only [St.add]
  rw [if_neg (by omega)]
  exact h k (by omega)
theorem St.WF.set {S : St} (h : S.WF) {k : Nat} (hk : k < S.next) (o : Ob) : (S.set k o).WF := fun j hj => by
  have hj' : S.next ≤ j := hj
  simp only [St.set]
  rw [if_neg (by omega)]
  exact h j hj'
theorem St.WF.drop {S : St} (h : S.WF) (g : Nat) : (S.drop g).WF := fun j hj => by
  have hj' : S.next ≤ j := hj
  simp only [St.drop]
  split
  · rfl
  · exact h j hj'
theorem St.WF.leave {S : St} (h : S.WF) (o : Own) : (S.leave o).WF := by
  cases o with
  | row g => exact h.drop g
  | no => exact h
  | full => exact h
theorem St.WF.grow {S : St} (h : S.WF) (o : Own) (e : TypeId) (n : Nat) : (S.grow o e n).WF := (h.leave o).add _
theorem St.WF.keep {S : St} (h : S.WF) {n : Nat} (hn : S.next ≤ n) : (St.mk n S.ob).WF := fun k hk => h k (Nat.le_trans hn hk)
theorem St.Sub.keep {S T : St} (h : S.Sub T) {n : Nat} (hn : T.next ≤ n) : S.Sub ⟨n, T.ob⟩ := ⟨Nat.le_trans h.next hn, h.ob⟩
theorem St.Sub.trans {A B C : St} (h : A.Sub B) (k : B.Sub C) : A.Sub C := ⟨Nat.le_trans h.next k.next, fun i o hi => k.ob i o (h.ob i o hi)⟩
theorem DCalls.wf {P : Program} {g : FuncId} {args : List D} {S : St} {K : D → St → Prop} (h : DCalls P g args S K) : DCalls P g args S fun d S' => K d S' ∧ S'.WF := fun base η w vs hM hr => by
  rcases h base η w vs hM hr with ⟨h1, h2⟩ | ⟨d, S', η', v, w', h1, h2, h3, h4⟩
  · exact .inl ⟨h1, h2.mono fun _ _ ⟨d, S', η', v, h1, h2, h3, h4⟩ => ⟨d, S', η', v, ⟨h1, h4.mem.fresh⟩, h2, h3, h4⟩⟩
  · exact .inr ⟨d, S', η', v, w', h1, ⟨h2, h4.mem.fresh⟩, h3, h4⟩
theorem DRun.wf {P : Program} {run : List Value → Sem Value} {args : List D} {S : St} {K : D → St → Prop} (h : DRun P run args S K) : DRun P run args S fun d S' => K d S' ∧ S'.WF := fun base η w vs hM hr => by
  obtain ⟨d, S', η', v, w', h1, h2, h3, h4⟩ := h base η w vs hM hr
  exact ⟨d, S', η', v, w', h1, ⟨h2, h4.mem.fresh⟩, h3, h4⟩
theorem onVal_and {o : Option (Prop × D)} {K : D → Prop} {p : Prop} (hp : p) (h : onVal o K) : onVal o fun d => K d ∧ p := onVal_mono (fun _ hd => ⟨hd, hp⟩) h
section
variable {P : Program} {W : Nat → Bool}
theorem dop_more {f : Fm} {S : St} {ty : TypeId} {op : Op} {K : D → St → Prop} (hS : S.WF) (ho : dop P f S ty op K) : dop P f S ty op fun d S' => K d S' ∧ S'.WF := by
  cases op with
  | alloc t => simp only [dop] at *; exact ⟨ho.1, ho.2, hS.add _⟩
  | box t x => simp only [dop] at *; exact ⟨ho.1, ho.2, hS.add _⟩
  | store t x y =>
    simp only [dop] at *
    split at ho
    · split at ho
      · rename_i k off _ _ t' cs hk
        exact ⟨ho.1, ho.2.1, ho.2.2.1, ho.2.2.2.1, ho.2.2.2.2, hS.set (hS.lt hk) _⟩
      · exact ho
    · exact ho
  | call cl =>
    obtain ⟨callee, args, ts⟩ := cl
    cases callee with
    | value x =>
      simp only [dop] at *
      split at ho
      · exact ho.wf
      · exact ho
    | invoke r m =>
      simp only [dop] at *
      split at ho
      · obtain ⟨g, d', h1, h2⟩ := ho
        exact ⟨g, d', h1, h2.wf⟩
      · exact ho
    | builtin b =>
      by_cases hb : b = .append
      · subst hb
        simp only [dop] at *
        split at ho
        · split at ho
          · rcases ho with ⟨k1, k2, k3, k4, k5, k6, k7, k8⟩ | ⟨k1, k2, k3, k4, k5, k6, k7, k8, k9, k10⟩ | ho
            · exact .inl ⟨k1, k2, k3, k4, k5, k6, k7, k8, hS.grow _ _ _⟩
            · exact .inr (.inl ⟨k1, k2, k3, k4, k5, k6, k7, k8, k9, fun c zs e1 e2 => ⟨k10 c zs e1 e2, hS.add _⟩⟩)
            · exact .inr (.inr ho.wf)
          · exact ho
        · exact ho.wf
        · exact ho.wf
        · exact ho.wf
        · exact ho
      · cases b <;> first | exact absurd rfl hb | (simp only [dop] at *; exact onVal_and hS ho) | exact DRun.wf ho
  | makeSlice t x y => exact DRun.wf ho
  | typeAssert x xt t ok => exact DRun.wf ho
  | lookup t x i ok => exact DRun.wf ho
  | makeMap t r => exact DRun.wf ho
  | mapUpdate t m k x => exact (DRun.wf ho).mono fun d S' hd => ⟨hd.1.1, hd.1.2, hd.2⟩
  | insert t m k x => exact (DRun.wf ho).mono fun d S' hd => ⟨hd.1.1, hd.1.2, hd.2⟩
  | _ => simp only [dop] at *; exact onVal_and hS ho
theorem dops_more_n {ops : Array Oper} {Q : Fm → St → Prop} : ∀ (n : Nat) (l : List Oper), l.length ≤ n → (∀ o ∈ l, dstOk W o.dst = true) → ∀ {f : Fm} {S : St}, S.WF → dops P ops Q l f S → dops P ops (fun f' S' => Q f' S' ∧ S'.WF ∧ Off W f f') l f S
  | _, [], _, _, f, S, hS, h => ⟨h, hS, Off.refl W f⟩
  | 0, o :: l, hn, _, _, _, _, _ => absurd hn (by simp)
  | n + 1, o :: l, hln, hw, f, S, hS, h => by
    simp only [List.length_cons] at hln
    rw [dops_cons] at h
    rw [dops_cons]
    have h1 := hw o (by simp)
    have h2 : ∀ o' ∈ l, dstOk W o'.dst = true := fun o' ho => hw o' (by simp [ho])
    refine dwanted_mono (fun hy => dbs_mono (fun hy => ?_) (fun hB => ?_) hy) (fun hn => ?_) h
    · refine dop_mono (fun d S' hk => ?_) (dop_more hS hy)
      refine dops_mono (fun f' S'' hq => ?_) l (dops_more_n n l (by omega) h2 hk.2 hk.1)
      exact ⟨hq.1, hq.2.1, (Off.put (Off.refl W f) h1 d).trans hq.2.2⟩
    · obtain ⟨dst, op, ty, pos, after, guard⟩ := o
      cases op with
      | buildSlice t m ps =>
        cases l with
        | nil => exact hB.elim
        | cons o2 r2 =>
          obtain ⟨e, bs, k, b1, b2, b3, b4, b5, b6, b7, b8, b9, b10⟩ := hB
          refine ⟨e, bs, k, b1, b2, b3, b4, b5, b6, b7, b8, b9, dwanted_mono (fun hq => ?_) (fun x => x) b10⟩
          have h3 := h2 o2 (by simp)
          refine dops_mono (fun f' S'' hq => ?_) r2 (dops_more_n n r2 (by simp only [List.length_cons] at hln; omega) (fun o' ho => h2 o' (by simp [ho])) hS hq)
          exact ⟨hq.1, hq.2.1, ((Off.put (Off.refl W f) h1 _).trans (Off.put (Off.refl W _) h3 _)).trans hq.2.2⟩
      | _ => exact hB.elim
    · refine dops_mono (fun f' S'' hq => ?_) l (dops_more_n n l (by omega) h2 hS hn)
      exact ⟨hq.1, hq.2.1, (Off.put (Off.refl W f) h1 _).trans hq.2.2⟩
theorem dops_more {ops : Array Oper} {Q : Fm → St → Prop} (l : List Oper) (hw : ∀ o ∈ l, dstOk W o.dst = true) {f : Fm} {S : St} (hS : S.WF) (h : dops P ops Q l f S) : dops P ops (fun f' S' => Q f' S' ∧ S'.WF ∧ Off W f f') l f S := dops_more_n l.length l (Nat.le_refl _) hw hS h
theorem dhead_more {ops : Array Oper} {S : St} (hS : S.WF) {Q : Fm → St → Prop} : ∀ (l : List Oper), (∀ o ∈ l, dstOk W o.dst = true) → ∀ {f : Fm} {u : Option Ob}, dhead P ops S Q l f u → dhead P ops S (fun f' S' => Q f' S' ∧ S'.WF ∧ Off W f f') l f u
  | [], _, f, u, h => ⟨h, (by cases u with | none => exact hS | some b => exact hS.add b), Off.refl W f⟩
  | o :: l, hw, f, u, h => by
    unfold dhead at *
    have h1 := hw o (by simp)
    have h2 : ∀ o' ∈ l, dstOk W o'.dst = true := fun o' ho => hw o' (by simp [ho])
    have go : ∀ (d : D) (u' : Option Ob), dhead P ops S Q l (put f o.dst d) u' → dhead P ops S (fun f' S' => Q f' S' ∧ S'.WF ∧ Off W f f') l (put f o.dst d) u' := fun d u' hd =>
      dhead_mono (fun f' S' hq => ⟨hq.1, hq.2.1, (Off.put (Off.refl W f) h1 d).trans hq.2.2⟩) l (dhead_more hS l h2 hd)
    split at h
    · exact hop_mono (fun d u' hd => go d u' hd) h
    · exact dwanted_mono (fun hq => dquiet_mono (fun d hd => go d u hd) hq) (go _ u) h
theorem sAny_more {ops : Array Oper} {md : Region.Mode} {Zs : St → Prop} {Q : Fm → St → Prop} (hw : ∀ (j : Nat) (o : Oper), ops[j]? = some o → dstOk W o.dst = true) : ∀ (fuel : Nat) (L : Array Bool) {f : Fm} {S : St}, S.WF → sAny P md ops Zs Q fuel L f S → sAny P md ops Zs (fun f' S' => Q f' S' ∧ S'.WF ∧ Off W f f') fuel L f S
  | 0, _, f, _, hS, k => ⟨k.1, k.2, hS, Off.refl W f⟩
  | n + 1, L, f, S, hS, k => by
    refine ⟨fun e => ⟨k.1 e, hS, Off.refl W f⟩, fun i hi => ?_⟩
    have h2 := k.2 i hi
    unfold sOp at *
    cases ho : ops[i]? with
    | none => rw [ho] at h2; exact sAny_more hw n _ hS h2
    | some o =>
      rw [ho] at h2
      have h1 := hw i o ho
      have go : ∀ d (S' : St), S'.WF → sAny P md ops Zs Q n (L.setIfInBounds i true) (put f o.dst d) S' → sAny P md ops Zs (fun f' S' => Q f' S' ∧ S'.WF ∧ Off W f f') n (L.setIfInBounds i true) (put f o.dst d) S' := fun d S' hS' hk =>
        sAny_mono (fun f' S' hq => ⟨hq.1, hq.2.1, (Off.put (Off.refl W f) h1 d).trans hq.2.2⟩) _ _ (sAny_more hw n _ hS' hk)
      rcases h2 with ⟨d, e1, e2⟩ | ⟨e1, e2⟩
      · exact .inl ⟨d, e1, go d S hS e2⟩
      · refine .inr ⟨e1, e2.imp (fun e2 => dop_mono (fun d S' hk => ⟨hk.1.1, go d S' hk.2 hk.1.2⟩) (dop_more hS e2)) fun e2 => e2.imp (fun e2 => ?_) fun ⟨d, q1, q2, q3⟩ => ⟨d, q1, q2, go d S hS q3⟩⟩
        unfold dbw at *
        split at e2
        · obtain ⟨e, b1, b2, b3, b4, b5, b6⟩ := e2
          exact ⟨e, b1, b2, b3, b4, b5, b6.1, go _ _ (hS.add _) b6.2⟩
        · exact e2.elim
theorem dwp_more : ∀ (c : Code) {Q : DQ} {f : Fm} {S : St}, wrOk W c = true → S.WF → dwp P c Q f S → dwp P c (fun e f' S' => Q e f' S' ∧ S'.WF ∧ Off W f f') f S := by
  intro c
  induction c with
  | region id ops draw =>
    intro Q f S hw hS h
    have hw' : ∀ o ∈ ops.toList, dstOk W o.dst = true := fun o ho => Array.all_eq_true_iff_forall_mem.1 hw o (by simpa using ho)
    cases draw with
    | false => exact dops_more _ hw' hS h
    | true =>
      rcases h with ⟨n, h1, h2⟩ | ⟨Zs, n, h1, h2, h3⟩
      rotate_left
      · refine .inr ⟨Zs, n, h1, h2, sAny_mono (fun f' S' hq => ?_) _ _ (sAny_more (W := W) (fun j o ho => hw' o (by
          have := List.mem_of_getElem? (show (ops.toList.take n)[j]? = some o by simpa using ho)
          exact List.mem_of_mem_take this)) _ _ hS h3)⟩
        refine dops_mono (fun f'' S'' hk => ?_) _ (dops_more (W := W) _ (fun o ho => hw' o (List.mem_of_mem_drop ho)) hq.2.1 hq.1)
        exact ⟨hk.1, hk.2.1, hq.2.2.trans hk.2.2⟩
      refine .inl ⟨n, h1, dhead_mono (fun f' S' hq => ?_) _ (dhead_more (W := W) hS _ (fun o ho => hw' o (List.mem_of_mem_take ho)) h2)⟩
      refine dops_mono (fun f'' S'' hk => ?_) _ (dops_more (W := W) _ (fun o ho => hw' o (List.mem_of_mem_drop ho)) hq.2.1 hq.1)
      exact ⟨hk.1, hk.2.1, hq.2.2.trans hk.2.2⟩
  | seq x y ihx ihy =>
    intro Q f S hw hS h
    simp only [wrOk, Bool.and_eq_true] at hw
    refine dwp_mono x (fun e f2 S2 hq => ?_) (ihx hw.1 hS h)
    cases e with
    | normal =>
      refine dwp_mono y (fun e3 f3 S3 h3 => ?_) (ihy (Q := Q) hw.2 hq.2.1 hq.1)
      exact ⟨h3.1, h3.2.1, hq.2.2.trans h3.2.2⟩
    | exit i => exact hq
    | ret => exact hq
  | cond g x y ihx ihy =>
    intro Q f S hw hS h
    simp only [wrOk, Bool.and_eq_true] at hw
    unfold dwp at h ⊢
    generalize ev f g = u at h ⊢
    cases u with
    | v u => cases u with
      | bool b => exact ⟨fun e => ihx hw.1 hS (h.1 e), fun e => ihy hw.2 hS (h.2 e)⟩
      | _ => exact h
    | _ => exact h
  | block id c ih =>
    intro Q f S hw hS h
    refine dwp_mono c (fun e f2 S2 hq => ?_) (ih hw hS h)
    cases e with
    | normal => exact hq
    | ret => exact hq
    | exit i =>
      simp only [DQ.block] at *
      cases hb : Nat.beq i id with
      | true => rw [hb] at hq; exact hq
      | false => rw [hb] at hq; exact hq
  | loop c ih =>
    intro Q f S hw hS h
    obtain ⟨I, μ, h0, hr⟩ := h
    refine ⟨fun g T => I g T ∧ T.WF ∧ Off W f g, μ, ⟨h0, hS, Off.refl W f⟩, fun g T ⟨hI, hT, hg⟩ => ?_⟩
    refine dwp_mono c (fun e f2 S2 hq => ?_) (ih hw hT (hr g T hI))
    obtain ⟨hq, hwf, hoff⟩ := hq
    cases e with
    | normal =>
      obtain ⟨S'', ⟨s1, s2⟩, s3, s4⟩ := hq
      refine ⟨S'', ⟨s1, s2⟩, ⟨s3, fun k hk => ?_, hg.trans hoff⟩, s4⟩
      cases ho : S''.ob k with
      | none => rfl
      | some o => have := s2 k o ho; rw [hwf k (by omega)] at this; cases this
    | exit i => exact ⟨hq, hwf, hg.trans hoff⟩
    | ret => exact ⟨hq, hwf, hg.trans hoff⟩
  | skip => intro Q f S _ hS k; exact ⟨k, hS, Off.refl W f⟩
  | label l => intro Q f S _ hS k; exact ⟨k, hS, Off.refl W f⟩
  | exit i => intro Q f S _ hS k; exact ⟨k, hS, Off.refl W f⟩
  | ret => intro Q f S _ hS k; exact ⟨k, hS, Off.refl W f⟩
  | rangeFunc x ps aa b _ _ => intro Q f S _ _ k; exact k.elim
  | scope c _ => intro Q f S _ _ k; exact k.elim
  | goto l => intro Q f S _ _ k; exact k.elim
  | refuse s => intro Q f S _ _ k; exact k.elim
def dnextR (I : Nat → Fm → St → Prop) (m : Nat) (f' : Fm) (S' : St) : Prop := ∃ (m' : Nat) (ob : Nat → Option Ob), m' < m ∧ (∀ k o, ob k = some o → S'.ob k = some o) ∧ I m' f' ⟨S'.next, ob⟩
theorem least_of {p : Nat → Prop} (h : ∃ n, p n) : ∃ n, p n ∧ ∀ m, p m → n ≤ m := by
  obtain ⟨n, hn⟩ := h
  induction n using Nat.strongRecOn with
  | _ n ih =>
    by_cases hx : ∃ m, m < n ∧ p m
    · obtain ⟨m, h1, h2⟩ := hx
      exact ih m h1 h2
    · refine ⟨n, hn, fun m hm => ?_⟩
      rcases Nat.lt_or_ge m n with h1 | h1
      · exact absurd ⟨m, h1, hm⟩ hx
      · exact h1
theorem dloop_down {c : Code} {Q : DQ} {f : Fm} {S : St} (W : Nat → Bool) (hW : wrOk W c = true) (hS : S.WF) (I : Nat → Fm → St → Prop) (m : Nat) (h0 : I m f S)
    (hr : ∀ m g T, T.WF → Off W f g → I m g T → dwp P c (DQ.then (dnextR I m) Q) g T) : DLoop (dwp P c) Q f S := by
  classical
  let J : Fm → St → Nat → Prop := fun g T m => I m g T ∧ T.WF ∧ Off W f g
  refine ⟨fun g T => ∃ m, J g T m, fun g T => if h : ∃ m, J g T m then Classical.choose (least_of h) else 0, ⟨m, h0, hS, Off.refl W f⟩, fun g T hI => ?_⟩
  have hf := (Classical.choose_spec (least_of hI)).1
  obtain ⟨h1, h2, h3⟩ := hf
  refine dwp_mono c (fun e f2 S2 hq => ?_) (dwp_more (W := W) c hW h2 (hr _ g T h2 h3 h1))
  obtain ⟨hq, hwf, hoff⟩ := hq
  cases e with
  | normal =>
    obtain ⟨m', ob, k1, k2, k3⟩ := hq
    have hw2 : (St.mk S2.next ob).WF := fun k hk => by
      cases ho : ob k with
      | none => exact ho
      | some o => have := k2 k o ho; rw [hwf k hk] at this; cases this
    have hj : J f2 ⟨S2.next, ob⟩ m' := ⟨k3, hw2, h3.trans hoff⟩
    refine ⟨⟨S2.next, ob⟩, ⟨rfl, k2⟩, ⟨m', hj⟩, ?_⟩
    show (if h : ∃ m, J f2 ⟨S2.next, ob⟩ m then Classical.choose (least_of h) else 0) < (if h : ∃ m, J g T m then Classical.choose (least_of h) else 0)
    rw [dif_pos ⟨m', hj⟩, dif_pos hI]
    exact Nat.lt_of_le_of_lt ((Classical.choose_spec (least_of ⟨m', hj⟩)).2 m' hj) k1
  | exit i => exact hq
  | ret => exact hq
def dnextU (I : Nat → Fm → St → Prop) (n i : Nat) (f' : Fm) (S' : St) : Prop := i < n ∧ ∃ ob : Nat → Option Ob, (∀ k o, ob k = some o → S'.ob k = some o) ∧ I (i + 1) f' ⟨S'.next, ob⟩
theorem dloop_up {c : Code} {Q : DQ} {f : Fm} {S : St} (W : Nat → Bool) (hW : wrOk W c = true) (hS : S.WF) (n : Nat) (I : Nat → Fm → St → Prop) (h0 : I 0 f S)
    (hr : ∀ i g T, T.WF → Off W f g → I i g T → dwp P c (DQ.then (dnextU I n i) Q) g T) : DLoop (dwp P c) Q f S := by
  refine dloop_down W hW hS (fun m g T => ∃ i, m = n - i ∧ I i g T) (n - 0) ⟨0, rfl, h0⟩ fun m g T hT hg ⟨i, hm, hI⟩ => ?_
  subst hm
  refine dwp_mono c (fun e f2 S2 hq => ?_) (hr i g T hT hg hI)
  cases e with
  | normal =>
    obtain ⟨k1, ob, k2, k3⟩ := hq
    exact ⟨n - (i + 1), ob, by omega, k2, i + 1, rfl, k3⟩
  | exit i => exact hq
  | ret => exact hq
def dnextS (S : St) (I : Nat → Fm → Prop) (n i : Nat) (f' : Fm) (S' : St) : Prop := i < n ∧ S.Sub S' ∧ I (i + 1) f'
theorem dloop_st {c : Code} {Q : DQ} {f : Fm} {S : St} (W : Nat → Bool) (hW : wrOk W c = true) (hS : S.WF) (n : Nat) (I : Nat → Fm → Prop) (h0 : I 0 f)
    (hr : ∀ i g tn, S.next ≤ tn → (St.mk tn S.ob).WF → Off W f g → I i g → dwp P c (DQ.then (dnextS S I n i) Q) g ⟨tn, S.ob⟩) : DLoop (dwp P c) Q f S := by
  refine dloop_up W hW hS n (fun i g T => S.next ≤ T.next ∧ T.ob = S.ob ∧ I i g) ⟨Nat.le_refl _, rfl, h0⟩ fun i g T hT hg ⟨h1, h2, h3⟩ => ?_
  obtain ⟨tn, tob⟩ := T
  have h2' : tob = S.ob := h2
  subst h2'
  refine dwp_mono c (fun e f2 S2 hq => ?_) (hr i g tn h1 hT hg h3)
  cases e with
  | normal => exact ⟨hq.1, S.ob, hq.2.1.ob, hq.2.1.next, rfl, hq.2.2⟩
  | exit i => exact hq
  | ret => exact hq
def dnextV (S : St) (v : Nat) (b : Nat → Ob) (I : Nat → Fm → Prop) (n i : Nat) (f' : Fm) (S' : St) : Prop := i < n ∧ (S.set v (b (i + 1))).Sub S' ∧ I (i + 1) f'
theorem dloop_var {c : Code} {Q : DQ} {f : Fm} {S : St} (W : Nat → Bool) (hW : wrOk W c = true) (hS : S.WF) (n : Nat) (v : Nat) (b : Nat → Ob) (hv : S.ob v = some (b 0)) (I : Nat → Fm → Prop) (h0 : I 0 f)
    (hr : ∀ i g tn, S.next ≤ tn → (St.mk tn (S.set v (b i)).ob).WF → Off W f g → I i g → dwp P c (DQ.then (dnextV S v b I n i) Q) g ⟨tn, (S.set v (b i)).ob⟩) : DLoop (dwp P c) Q f S := by
  have hb : (S.set v (b 0)).ob = S.ob := by
    funext k
    simp only [St.set]
    split
    · rename_i h; rw [h, hv]
    · rfl
  refine dloop_up W hW hS n (fun i g T => S.next ≤ T.next ∧ T.ob = (S.set v (b i)).ob ∧ I i g) ⟨Nat.le_refl _, hb.symm, h0⟩ fun i g T hT hg ⟨h1, h2, h3⟩ => ?_
  obtain ⟨tn, tob⟩ := T
  have h2' : tob = (S.set v (b i)).ob := h2
  subst h2'
  refine dwp_mono c (fun e f2 S2 hq => ?_) (hr i g tn h1 hT hg h3)
  cases e with
  | normal => exact ⟨hq.1, (S.set v (b (i + 1))).ob, hq.2.1.ob, hq.2.1.next, rfl, hq.2.2⟩
  | exit i => exact hq
  | ret => exact hq
theorem St.Sub.upd {S X : St} {v tn : Nat} {b B B' : Ob} (hn : S.next ≤ tn) (hB : B' = B) (h : St.Sub ⟨tn, (S.set v b).ob⟩ X) : (S.set v B').Sub (X.set v B) := ⟨Nat.le_trans hn h.next, fun k o hk => by
  subst hB
  simp only [set_ob] at *
  split
  · rename_i e; rw [if_pos e] at hk; exact hk
  · rename_i e
    rw [if_neg e] at hk
    refine h.ob k o ?_
    show (S.set v b).ob k = _
    rw [set_ob, if_neg e]
    exact hk⟩
/-! A row that grows. -/
def rowOf (S : St) (own : Own) (e : TypeId) (n : Nat) : Nat → Option Ob := fun k => match own with
  | .row g => if k = g then some (.row e n) else S.ob k
  | _ => S.ob k
def RowOk (lo : Nat) (S : St) (own : Own) (n : Nat) : Prop := own = .full ∨ ∃ g, own = .row g ∧ lo ≤ g ∧ S.ob g = none ∧ g < n
theorem rowOf_lt {lo : Nat} {S : St} {own : Own} {n : Nat} (h : RowOk lo S own n) {e : TypeId} {m k : Nat} (hk : k < lo) : rowOf S own e m k = S.ob k := by
  rcases h with rfl | ⟨g, rfl, h1, _⟩
  · rfl
  · show (if k = g then _ else _) = _
    rw [if_neg (by omega)]
theorem rowOf_some {lo : Nat} {S : St} {own : Own} {n : Nat} (h : RowOk lo S own n) {e : TypeId} {m k : Nat} {o : Ob} (hk : S.ob k = some o) : rowOf S own e m k = some o := by
  rcases h with rfl | ⟨g, rfl, _, h1, _⟩
  · exact hk
  · have : k ≠ g := fun e => by subst e; rw [h1] at hk; cases hk
    show (if k = g then _ else _) = _
    rw [if_neg this]
    exact hk
theorem RowOk.sub {lo : Nat} {S : St} {own : Own} {e : TypeId} {m n : Nat} (h : RowOk lo S own n) (hn : S.next ≤ n) : S.Sub ⟨n, rowOf S own e m⟩ := ⟨hn, fun k o hk => rowOf_some h hk⟩
theorem RowOk.own {lo : Nat} {S : St} {own : Own} {e : TypeId} {m n : Nat} (h : RowOk lo S own n) : (match own with | .full => True | .row g => rowOf S own e m g = some (.row e m) | .no => False) := by
  rcases h with rfl | ⟨g, rfl, h1, _⟩
  · trivial
  · show (if g = g then _ else _) = _
    rw [if_pos rfl]
theorem RowOk.own_of {lo : Nat} {S X : St} {own : Own} {e : TypeId} {m n : Nat} (h : RowOk lo S own n) (hs : St.Sub ⟨n, rowOf S own e m⟩ X) : (match own with | .full => True | .row g => X.ob g = some (.row e m) | .no => False) := by
  have := h.own (e := e) (m := m)
  revert this
  cases own with
  | full => exact fun _ => trivial
  | no => exact fun h => h
  | row g => exact fun h => hs.ob _ _ h
theorem leave_next (S : St) (own : Own) : (S.leave own).next = S.next := by cases own <;> rfl
theorem aI {a b : Prop} (h : b) (ha : a := by with_reducible first | omega | assumption | rfl) : a ∧ b := ⟨ha, h⟩
theorem nx : (∀ (S : St) (o : Ob), (S.add o).next = S.next + 1) ∧ (∀ (S : St) (k : Nat) (o : Ob), (S.set k o).next = S.next) ∧ (∀ (S : St) (own : Own) (e : TypeId) (n : Nat), (S.grow own e n).next = S.next + 1) ∧ (∀ (S : St) (own : Own), (S.leave own).next = S.next) ∧ (∀ (S : St) (g : Nat), (S.drop g).next = S.next) ∧ (∀ (α β : Type) (f : α → β) (l : List α), (l.map f).length = l.length) :=
  ⟨add_next, set_next, grow_next, leave_next, drop_next, fun _ _ f l => List.length_map ..⟩
abbrev RowOk.lo {lo : Nat} {S : St} {own : Own} {n : Nat} (_ : RowOk lo S own n) : Nat := lo
structure RowNext (lo : Nat) (S : St) (own : Own) (e : TypeId) (m : Nat) (S' : St) : Prop where
  ok : RowOk lo S own S'.next
  next : S.next ≤ S'.next
  ob : ∀ k o, rowOf S own e m k = some o → S'.ob k = some o
theorem RowNext.grow {lo : Nat} {S X T : St} (hS : S.WF) (hlo : lo ≤ S.next) {own : Own} {e : TypeId} {m m' n : Nat} (h : RowOk lo S own n) (hn : S.next ≤ n) (hs : St.Sub ⟨n, rowOf S own e m⟩ X) (hT : (X.grow own e m').Sub T) : RowNext lo S (.row X.next) e m' T := by
  have hXn : n ≤ X.next := hs.next
  have hg : (X.grow own e m').next = X.next + 1 := grow_next _ _ _ _
  have hTn := hT.next
  rw [hg] at hTn
  refine ⟨.inr ⟨X.next, rfl, by omega, hS _ (by omega), by omega⟩, by omega, fun k o hk => hT.ob k o ?_⟩
  simp only [rowOf] at hk
  by_cases h1 : k = X.next
  · rw [if_pos h1] at hk
    rcases h with rfl | ⟨g, rfl, _, _⟩
    · rw [grow_full_ob, if_pos h1, hk]
    · rw [grow_row_ob, if_pos h1, hk]
  · rw [if_neg h1] at hk
    have h2 := hs.ob k o (rowOf_some h hk)
    rcases h with rfl | ⟨g, rfl, h3, h4, h5⟩
    · rw [grow_full_ob, if_neg h1]
      exact h2
    · have hkg : k ≠ g := fun e => by subst e; rw [h4] at hk; cases hk
      rw [grow_row_ob, if_neg h1, if_neg hkg]
      exact h2
def dnextG (lo : Nat) (S : St) (e : TypeId) (I : Nat → Own → Nat → Fm → Prop) (n i : Nat) (f' : Fm) (S' : St) : Prop := i < n ∧ ∃ own m, RowNext lo S own e m S' ∧ I (i + 1) own m f'
theorem dloop_rowI {c : Code} {Q : DQ} {f : Fm} {S : St} (W : Nat → Bool) (hW : wrOk W c = true) (hS : S.WF) (n : Nat) (e : TypeId) (lo : Nat) (own0 : Own) (m0 : Nat) (h1 : own0 = .full ∨ ∃ g, own0 = .row g ∧ lo ≤ g ∧ S.ob g = some (.row e m0)) (I : Nat → Own → Nat → Fm → Prop) (h0 : I 0 own0 m0 f)
    (hr : ∀ i g tn own m, (S.leave own0).next ≤ tn → RowOk lo (S.leave own0) own tn → (St.mk tn (rowOf (S.leave own0) own e m)).WF → Off W f g → I i own m g → dwp P c (DQ.then (dnextG lo (S.leave own0) e I n i) Q) g ⟨tn, rowOf (S.leave own0) own e m⟩) : DLoop (dwp P c) Q f S := by
  have hob : S.ob = rowOf (S.leave own0) own0 e m0 := by
    rcases h1 with rfl | ⟨g, rfl, _, h2⟩
    · rfl
    · funext k
      show S.ob k = if k = g then _ else (if k = g then none else S.ob k)
      split
      · rename_i e1; rw [e1, h2]
      · rfl
  have hok : RowOk lo (S.leave own0) own0 S.next := by
    rcases h1 with rfl | ⟨g, rfl, h3, h2⟩
    · exact .inl rfl
    · refine .inr ⟨g, rfl, h3, ?_, hS.lt h2⟩
      show (if g = g then none else S.ob g) = none
      rw [if_pos rfl]
  have hnx : (S.leave own0).next = S.next := by cases own0 <;> rfl
  refine dloop_up W hW hS n (fun i g T => S.next ≤ T.next ∧ ∃ own m, RowOk lo (S.leave own0) own T.next ∧ T.ob = rowOf (S.leave own0) own e m ∧ I i own m g) ⟨Nat.le_refl _, own0, m0, hok, hob, h0⟩ fun i g T hT hg ⟨h1, own, m, h4, h2, h3⟩ => ?_
  obtain ⟨tn, tob⟩ := T
  have h2' : tob = rowOf (S.leave own0) own e m := h2
  subst h2'
  refine dwp_mono c (fun e f2 S2 hq => ?_) (hr i g tn own m (by rw [hnx]; exact h1) h4 hT hg h3)
  cases e with
  | normal =>
    obtain ⟨k1, own', m', k2, k3⟩ := hq
    exact ⟨k1, rowOf (S.leave own0) own' _ m', k2.ob, hnx ▸ k2.next, own', m', k2.ok, rfl, k3⟩
  | exit i => exact hq
  | ret => exact hq
theorem dloop_row {c : Code} {Q : DQ} {f : Fm} {S : St} (W : Nat → Bool) (hW : wrOk W c = true) (hS : S.WF) (n : Nat) (e : TypeId) (I : Nat → Own → Nat → Fm → Prop) (h0 : I 0 .full 0 f)
    (hr : ∀ i g tn own m, S.next ≤ tn → RowOk S.next S own tn → (St.mk tn (rowOf S own e m)).WF → Off W f g → I i own m g → dwp P c (DQ.then (dnextG S.next S e I n i) Q) g ⟨tn, rowOf S own e m⟩) : DLoop (dwp P c) Q f S :=
  dloop_rowI W hW hS n e S.next .full 0 (.inl rfl) I h0 hr
theorem dapp_grow {P : Program} {S1 S : St} {t tx ty e : TypeId} {own o2 : Own} {es es2 : List D} {K : D → St → Prop} {lo n m : Nat} (he : elT P t = some e) (hx : (elT P tx).isSome = true) (hz : zeroT P e = true) (h1 : ∀ d ∈ es, d.width = szOf P e) (h2 : ∀ d ∈ es2, d.width = szOf P e) (hr : RowOk lo S own n) (hs : St.Sub ⟨n, rowOf S own e m⟩ S1) (hm : own = .full ∨ m = es.length)
    (hb : es.length + es2.length ≤ 140737488355328) (hb2 : (es.length + es2.length) * bytesOf P e ≤ 140737488355328) (k : K (.sl (.row S1.next) (es ++ es2)) (S1.grow own e (es.length + es2.length))) : dapp P S1 t tx ty (.sl own es) (.sl o2 es2) K := by
  refine dapp_row ?_
  simp only [dappend, he]
  refine ⟨hx, hz, h1, h2, ?_, hb, hb2, k⟩
  rcases hm with rfl | hm
  · trivial
  · rw [← hm]
    have key := hr.own_of hs
    cases own <;> exact key
end
end Go.Proofs.YtonncfminojejaaDoor

namespace Go.Proofs.YtonncfminojejaaDoor
open Go.ChangeShapes Go.WideShapes Go.RowKit
theorem door_own : ownKnob Tryd.prog.godebug = none := by kernel_rfl
theorem door_laidOut : laidOutB Tryd.prog = true := by kernel_rfl
theorem door_et : Tryd.prog.globalNamed "errors.errorType" = some 0 := by kernel_rfl
theorem door_rt : (Tryd.prog.cutTypes.find? (·.1 == "internal/reflectlite.rtype")).map (·.2) = some 111 := by kernel_rfl
theorem door_row : ((List.range Tryd.prog.types.size).filter fun t => Tryd.prog.rowNamed t [101, 114, 114, 111, 114]) = [27] := by kernel_rfl
abbrev doorLaid {H : Type} : List (String × DataW H) := [("errors.errorType", Rows.laid_errors_errorType)]
theorem handle_of_laid {W : World} (h : laidMetH Tryd.prog doorLaid W) : W.cell? ⟨0, 0, none⟩ = some (.iface 111 (.agg #[.pointer (some ⟨1, 27, none⟩)])) := by
  have h' : laidMet Tryd.prog [] W ∧ handlesMet Tryd.prog doorLaid W := h
  obtain ⟨name, u, ty, e1, e2, e3, e4, e5⟩ := h'.2 _ (List.mem_singleton.2 rfl)
  have en : name = [101, 114, 114, 111, 114] := (Option.some.inj e1).symm
  subst en
  obtain rfl := Option.some.inj (door_rt.symm.trans e2)
  have hm : ty ∈ (List.range Tryd.prog.types.size).filter fun t => Tryd.prog.rowNamed t [101, 114, 114, 111, 114] := List.mem_filter.2 ⟨List.mem_range.2 e3, e4⟩
  rw [door_row] at hm
  obtain rfl := List.mem_singleton.1 hm
  have hh : typeHandle Tryd.prog 27 = .pointer (some ⟨1, 27, none⟩) := by kernel_rfl
  rw [hh] at e5
  simpa using World.var?_cell door_et e5 0
theorem glob_of_laid {W : World} (h : laidMetH Tryd.prog doorLaid W) : GlobOk W.heap.size W := fun p hp => by
  have hc := handle_of_laid h
  have e : p = (0, .iface 111 (.agg #[.pointer (some ⟨1, 27, none⟩)])) := List.mem_singleton.1 hp
  subst e
  refine ⟨?_, hc⟩
  rcases Nat.lt_or_ge 0 W.heap.size with h0 | h0
  · exact h0
  · exact absurd hc (by simp [World.cell?, Array.getElem?_eq_none h0])
def door_st : St := ⟨0, fun _ => none⟩
section
variable {P : Program}
theorem door_mem (w : World) (hg : GlobOk w.heap.size w) : Mem P w.heap.size door_st (fun _ => none) w := ⟨Nat.le_refl _, fun _ _ => rfl, fun _ _ => rfl, (fun _ _ _ h => by cases h), (fun _ _ _ h => by cases h), (fun _ _ h => by cases h), (fun _ _ _ _ h => by cases h), (fun _ _ _ _ h => by cases h), hg⟩
theorem fix_nilD (b i : Nat) : Fix P door_st (fun _ => none) b i := fun _ _ h => by cases h
theorem door_gives {g : FuncId} {args : List D} {v : Value} (h : DPure P g args (.v v)) {w : World} {vs : List Value} (hr : RepL P w (fun _ => none) (Fix P door_st fun _ => none) args vs) (hent : ∀ vs w, (callFunc g vs).run P w = .ok (.enter g vs) w := by intro _ _; kernel_rfl) (hg : GlobOk w.heap.size w) : Calls P g vs.toArray w (Gives v w) := by
  rcases h door_st w.heap.size _ w vs (door_mem w hg) hr with ⟨_, k⟩ | ⟨d, S', η', u, w', k, _⟩
  · refine k.mono fun _ _ ⟨d, S', η', u, ⟨h1, _⟩, h2, h3, h4⟩ => ?_
    subst h1
    simp only [Rep] at h3
    subst h3
    exact ⟨h2, h4.below⟩
  · rw [hent] at k
    injection k with k
    cases k
end
noncomputable def laidWorld (os : Os) : World :=
  let w0 := World.holding Tryd.prog os ⟨#[], #[], []⟩
  { w0 with heap := w0.heap.modify 0 fun
      | .cells _ t frozen => .cells #[.iface 111 (.agg #[.pointer (some ⟨1, 27, none⟩)])] t frozen
      | o => o }
theorem laidWorld_met (os : Os) (args : Array Value) : laidMetH Tryd.prog doorLaid ((laidWorld os).forCall (fun _ _ => 0) ⟨#[], args, []⟩).memory :=
  laidMetH_of_parts (laidMet_nil _ _) (by kernel_rfl)
end Go.Proofs.YtonncfminojejaaDoor

namespace Go.Proofs.YtonncfminojejaaDoor
open Go.RowKit

mutual
def D.thaw (k : Nat) (es : List D) : D → D
  | .agg cs => .agg (thawL k es cs)
  | .tup cs => .tup (thawL k es cs)
  | .win j off n c => bif Nat.beq j k && (Nat.beq off 0 && Nat.beq n es.length) then .sl .no es else .win j off n c
  | .v x => .v x
  | .fn f fs cs => .fn f fs cs
  | .ifc t d => .ifc t d
  | .loc j o => .loc j o
  | .rd cs o => .rd cs o
  | .sl o l => .sl o l
def thawL (k : Nat) (es : List D) : List D → List D
  | [] => []
  | d :: l => d.thaw k es :: thawL k es l
end
section
variable {P : Program} {base : Nat} {S : St} {η : Names} {w : World}
theorem win_cells (hM : Mem P base S η w) {k b : Nat} {e : TypeId} {es zs : List D} (hk : S.ob k = some (.box e (flat es ++ zs))) (hb : η k = some (some b)) (hw : ∀ d ∈ es, d.width = szOf P e) {X : Nat → Nat → Prop} (hX : ∀ i, X b i) {w' : World} {η' : Names} (hE : w' = w) (hK : ∀ {l : List D} {vs : List Value}, RepL P w η (Fix P S η) l vs → RepL P w' η' X l vs) : RepE P w' η' X (szOf P e) es b 0 := by
  subst hE
  obtain ⟨vs, h1, h2, h3⟩ := hM.box k e _ b hk hb
  refine RepE.of_flat hw ?_
  have h4 := RepC.mk (b := b) (o := 0) (hK h2) (fun j v hj => by
    rw [Nat.zero_add]
    have : w'.cell? ⟨b, j, none⟩ = vs.toArray[j]? := by simp [World.cell?, h1]
    rw [this]; simpa using hj) (fun j _ => hX _) h3
  exact h4.left.1
mutual
theorem Rep.thaw (hM : Mem P base S η w) {k : Nat} {e : TypeId} {es zs : List D} (hk : es = [] ∨ S.ob k = some (.box e (flat es ++ zs))) (hz : 0 < szOf P e) (hw : ∀ d ∈ es, d.width = szOf P e) : ∀ {d : D} {v : Value}, Rep P w η (Fix P S η) d v → Rep P w η (Fix P (S.drop k) η) (d.thaw k es) v
  | .v x, v, h => by simp only [D.thaw]; exact (goes_drop hM k).rep h
  | .fn f fs cs, v, h => by simp only [D.thaw]; exact (goes_drop hM k).rep h
  | .ifc t d, v, h => by simp only [D.thaw]; exact (goes_drop hM k).rep h
  | .loc j o, v, h => by simp only [D.thaw]; exact (goes_drop hM k).rep h
  | .rd cs o, v, h => by simp only [D.thaw]; exact (goes_drop hM k).rep h
  | .sl o l, v, h => by simp only [D.thaw]; exact (goes_drop hM k).rep h
  | .agg cs, v, h => by
    simp only [D.thaw, Rep] at *
    obtain ⟨vs, h1, h2, h3⟩ := h
    exact ⟨vs, h1, RepL.thaw hM hk hz hw h2, h3⟩
  | .tup cs, v, h => by
    simp only [D.thaw, Rep] at *
    obtain ⟨vs, h1, h2⟩ := h
    exact ⟨vs, h1, RepL.thaw hM hk hz hw h2⟩
  | .win j off n c, v, h => by
    cases hb : (Nat.beq j k && (Nat.beq off 0 && Nat.beq n es.length)) with
    | false =>
      have e1 : (D.win j off n c).thaw k es = .win j off n c := by simp only [D.thaw, hb, cond_false]
      rw [e1]
      exact (goes_drop hM k).rep h
    | true =>
      rw [Bool.and_eq_true, Bool.and_eq_true] at hb
      have e1 : j = k := Nat.eq_of_beq_eq_true hb.1
      have e4 : off = 0 := Nat.eq_of_beq_eq_true hb.2.1
      have e2 : n = es.length := Nat.eq_of_beq_eq_true hb.2.2
      subst e1 e2 e4
      have e3 : (D.win j 0 es.length c).thaw j es = .sl .no es := by simp [D.thaw]
      rw [e3]
      obtain ⟨A, h2, h3, h4, h1⟩ := h.win_slice
      simp only [Rep]
      refine ⟨A, c, h2, h3, h4, trivial, fun hpos => ?_⟩
      rcases hk with hk | hk
      · rw [hk] at hpos; exact absurd hpos (by simp)
      rcases h1 with ⟨b, h1, rfl⟩ | ⟨_, h1, _⟩
      rotate_left
      · omega
      refine ⟨b, 0, szOf P e, rfl, hz, ?_⟩
      refine win_cells hM hk h1 hw (fun i k' o hk' ho => ?_) rfl (fun hr => (goes_drop hM j).repL hr)
      by_cases hkj : k' = j
      · subst hkj
        simp [St.drop] at ho
      · simp only [St.drop, if_neg hkj] at ho
        exact absurd (hM.inj k' j b hk' h1 (by rw [ho]; rfl) (by rw [hk]; rfl)) hkj
theorem RepL.thaw (hM : Mem P base S η w) {k : Nat} {e : TypeId} {es zs : List D} (hk : es = [] ∨ S.ob k = some (.box e (flat es ++ zs))) (hz : 0 < szOf P e) (hw : ∀ d ∈ es, d.width = szOf P e) : ∀ {l : List D} {vs : List Value}, RepL P w η (Fix P S η) l vs → RepL P w η (Fix P (S.drop k) η) (thawL k es l) vs
  | [], vs, h => by simp only [thawL, RepL] at *; exact h
  | d :: l, vs, h => by
    simp only [thawL, RepL] at *
    obtain ⟨x, xs, h1, h2, h3⟩ := h
    exact ⟨x, xs, h1, Rep.thaw hM hk hz hw h2, RepL.thaw hM hk hz hw h3⟩
end
end
def ownOb (e : TypeId) (es zs : List D) (c : Nat) : Ob := bif Nat.beq c 0 then .row e 0 else .box e (flat es ++ zs)
theorem ownOb_box {e : TypeId} {es zs : List D} {c : Nat} (h : 0 < c) : ownOb e es zs c = .box e (flat es ++ zs) := by
  cases c with
  | zero => omega
  | succ c => rfl
theorem ownOb_nil (e : TypeId) (es zs : List D) : ownOb e es zs 0 = .row e 0 := rfl
theorem thaw_own {P : Program} {S : St} {k c : Nat} {e : TypeId} {es zs : List D} (hk : S.ob k = some (ownOb e es zs c)) (hc : es.length ≤ c) (hz : 0 < szOf P e) (hw : ∀ d ∈ es, d.width = szOf P e) {d d1 : D} (hd : d.thaw k es = d1) : Thaw P S d (S.drop k) d1 := fun base η w v hM hr => by
  refine ⟨η, goes_drop hM k, hd ▸ Rep.thaw (zs := zs) hM ?_ hz hw hr⟩
  rcases Nat.eq_zero_or_pos c with rfl | h
  · exact .inl (List.eq_nil_of_length_eq_zero (by omega))
  · rw [ownOb_box h] at hk
    exact .inr hk
theorem flat_cons (d : D) (l : List D) : flat (d :: l) = d.cells ++ flat l := by simp [flat]
theorem splice_flat : ∀ {es : List D} {zs : List D} {z : Nat} (i : Nat) {y : D}, i < es.length → (∀ d ∈ es, d.width = z) → y.width = z → splice (flat es ++ zs) (0 + i * z) y.cells = flat (es.set i y) ++ zs
  | [], _, _, i, _, h, _, _ => by simp at h
  | d :: es, zs, z, 0, y, _, hw, hy => by
    have h1 : d.cells.length = z := hw d (by simp)
    have h2 : y.cells.length = z := hy
    simp only [List.set_cons_zero, flat_cons, splice, Nat.zero_mul, Nat.add_zero, List.take_zero, List.nil_append, Nat.zero_add, h2, List.append_assoc]
    rw [List.drop_append, List.drop_of_length_le (by omega), h1, Nat.sub_self, List.drop_zero, List.nil_append]
  | d :: es, zs, z, i + 1, y, hi, hw, hy => by
    have h1 : d.cells.length = z := hw d (by simp)
    have ih := splice_flat (es := es) (zs := zs) (z := z) i (y := y) (by simpa using hi) (fun d' hd' => hw d' (by simp [hd'])) hy
    simp only [List.set_cons_succ, flat_cons, List.append_assoc]
    rw [← ih]
    simp only [splice, Nat.zero_add]
    have e1 : (i + 1) * z = z + i * z := by rw [Nat.add_mul]; omega
    rw [e1, List.take_append, List.drop_append, h1]
    rw [List.take_of_length_le (l := d.cells) (by omega), List.drop_of_length_le (l := d.cells) (by omega)]
    rw [show z + i * z - z = i * z by omega, show z + i * z + y.cells.length - z = i * z + y.cells.length by omega]
    simp [List.append_assoc]
theorem splice_flat' {es zs : List D} {z i : Nat} {y : D} (hi : i < es.length) (hw : ∀ d ∈ es, d.width = z) (hy : y.width = z) : List.take (i * z) (flat es ++ zs) ++ y.cells ++ List.drop (i * z + z) (flat es ++ zs) = flat (es.set i y) ++ zs := by
  have := splice_flat (zs := zs) i hi hw hy
  rw [← this]
  simp only [splice, Nat.zero_add]
  rw [show y.cells.length = z from hy]
theorem dquietR_of {P : Program} {f : Fm} {S : St} {ty : TypeId} {op : Op} {d : D} (h : dquiet P f S ty op fun d' => d' = d) : dquietR P f S ty op d := by
  obtain ⟨d', h1, rfl⟩ := dquiet_iff.1 h
  exact h1
end Go.Proofs.YtonncfminojejaaDoor

namespace Go.Proofs.YtonncfminojejaaDoor
open Go.RowKit

def SrcOk (S : St) (z : Nat) (d : D) (m : Nat) (news : List D) : Prop := match d with
  | .sl _ es => (∀ x ∈ es, x.width = z) ∧ m = es.length ∧ news = flat es
  | .win k off n _ => m = n ∧ (n = 0 ∧ news = [] ∨ ∃ t cs, S.ob k = some (.box t cs) ∧ off + n * z ≤ cs.length ∧ news = (cs.drop off).take (n * z))
  | _ => False
theorem srcOk_sl {S : St} {z : Nat} {o : Own} {es : List D} (h : ∀ x ∈ es, x.width = z) : SrcOk S z (.sl o es) es.length (flat es) := ⟨h, rfl, rfl⟩
structure SrcAt (w : World) (z : Nat) (v : Value) (m : Nat) (us : List Value) : Prop where
  sl : ∃ A c, v = .slice A m c ∧ m ≤ 140737488355328 ∧ ((A = none ∧ m = 0) ∨ ∃ a, A = some a ∧ ∀ (j : Nat) u, us[j]? = some u → w.cell? (a.add j) = some u)
  len : us.length = m * z
  one : ∀ u ∈ us, u.oneCell' = true
section
variable {P : Program} {base : Nat} {S : St} {η : Names} {w : World}
theorem SrcOk.length {z : Nat} {d : D} {m : Nat} {news : List D} (h : SrcOk S z d m news) : news.length = m * z := by
  cases d with
  | sl o es => obtain ⟨h1, rfl, rfl⟩ := h; exact dflat_length h1
  | win k off n c =>
    obtain ⟨rfl, ⟨h1, rfl⟩ | ⟨t, cs, _, h2, rfl⟩⟩ := h
    · rw [h1]; simp
    · rw [List.length_take, List.length_drop]; omega
  | _ => exact h.elim
theorem srcOk_at (hM : Mem P base S η w) {z : Nat} {d : D} {m : Nat} {news : List D} {v : Value} (hs : SrcOk S z d m news) (hr : Rep P w η (Fix P S η) d v) :
    ∃ us, SrcAt w z v m us ∧ RepL P w η (Fix P S η) news us := by
  cases d with
  | sl o es =>
    obtain ⟨h1, rfl, rfl⟩ := hs
    simp only [Rep] at hr
    obtain ⟨A, c, rfl, h2, h3, h4, h5⟩ := hr
    rcases Nat.eq_zero_or_pos es.length with h0 | h0
    · have : es = [] := List.eq_nil_of_length_eq_zero h0
      subst this
      refine ⟨[], ⟨⟨A, c, rfl, by simp, ?_⟩, by simp, fun u hu => by cases hu⟩, by simp [flat, RepL]⟩
      cases A with
      | none => exact .inl ⟨rfl, rfl⟩
      | some a => exact .inr ⟨a, rfl, fun j u hu => by simp at hu⟩
    · obtain ⟨b, o, z', rfl, hz', hr⟩ := h5 h0
      obtain ⟨k1, k2⟩ := RepE.flat hr
      obtain ⟨vs, g1, g2, g3, g4⟩ := k2.range
      exact ⟨vs, ⟨⟨_, c, rfl, h3, .inr ⟨_, rfl, fun j u hu => by rw [Addr.add_mid]; exact g2 j u hu⟩⟩, by rw [g1, dflat_length h1], g4⟩, g3⟩
  | win k off n c =>
    obtain ⟨rfl, h⟩ := hs
    obtain ⟨A, rfl, h2, h3, h4⟩ := hr.win_slice
    rcases h with ⟨rfl, rfl⟩ | ⟨t, cs, h5, h6, rfl⟩
    · refine ⟨[], ⟨⟨A, c, rfl, by simp, ?_⟩, by simp, fun u hu => by cases hu⟩, by simp [RepL]⟩
      cases A with
      | none => exact .inl ⟨rfl, rfl⟩
      | some a => exact .inr ⟨a, rfl, fun j u hu => by simp at hu⟩
    · obtain ⟨b, hb⟩ := hM.live k t cs h5
      rcases h4 with ⟨b', h4, rfl⟩ | ⟨h4, _⟩
      rotate_left
      · rw [hb] at h4; cases h4
      have : b' = b := by rw [hb] at h4; injection h4 with h4; injection h4 with h4; exact h4.symm
      subst this
      obtain ⟨vs, g1, g2, g3⟩ := hM.box k t cs b' h5 hb
      have hl := g2.length
      refine ⟨(vs.drop off).take (m * z), ⟨⟨_, c, rfl, h3, .inr ⟨_, rfl, fun j u hu => ?_⟩⟩, by rw [List.length_take, List.length_drop]; omega, fun u hu => g3 u (List.mem_of_mem_drop (List.mem_of_mem_take hu))⟩, (g2.drop off).take _⟩
      rw [Addr.add_mid]
      have : w.cell? ⟨b', off + j, none⟩ = vs.toArray[off + j]? := by simp [World.cell?, g1]
      rw [this]
      rw [List.getElem?_take] at hu
      split at hu
      · rw [List.getElem?_drop] at hu
        simpa using hu
      · cases hu
  | _ => exact hs.elim
theorem SrcAt.src {z : Nat} {v : Value} {m : Nat} {us : List Value} {tx : TypeId} (h : SrcAt w z v m us) (ht : (elT P tx).isSome = true) : Src P z tx v m us w := by
  obtain ⟨e', he'⟩ := Option.isSome_iff_exists.1 ht
  have hk := elT_spec he'
  obtain ⟨⟨A, c, rfl, _, ⟨rfl, rfl⟩ | ⟨a, rfl, ha⟩⟩, h2, h3⟩ := h
  · have : us = [] := List.eq_nil_of_length_eq_zero (by rw [h2]; simp)
    subst this
    exact Src.ofNil w hk c
  · exact Src.ofSlice w hk a m c us h2 ha h3
theorem win_live (hM : Mem P base S η w) {k off n c : Nat} {t : TypeId} {cs : List D} {v : Value} (hk : S.ob k = some (.box t cs)) (hr : Rep P w η (Fix P S η) (.win k off n c) v) :
    ∃ b vs, v = .slice (some ⟨b, off, none⟩) n c ∧ η k = some (some b) ∧ w.heap[b]? = some (.cells vs.toArray t (0, 0)) ∧ RepL P w η (Fix P S η) cs vs ∧ (∀ x ∈ vs, x.oneCell' = true) ∧ n ≤ c ∧ n ≤ 140737488355328 := by
  obtain ⟨A, rfl, h2, h3, h4⟩ := hr.win_slice
  obtain ⟨b, hb⟩ := hM.live k t cs hk
  rcases h4 with ⟨b', h4, rfl⟩ | ⟨h4, _⟩
  · have : b' = b := by rw [hb] at h4; injection h4 with h4; injection h4 with h4; exact h4.symm
    subst this
    obtain ⟨vs, g1, g2, g3⟩ := hM.box k t cs b' hk hb
    exact ⟨b', vs, rfl, h4, g1, g2, g3, h2, h3⟩
  · rw [hb] at h4; cases h4
theorem splice_len {cs ds : List D} {off : Nat} (h : off + ds.length ≤ cs.length) : (splice cs off ds).length = cs.length := by
  simp only [splice, List.length_append, List.length_take, List.length_drop]
  omega
theorem one_splice {vs us : List Value} {off : Nat} (h : ∀ x ∈ vs, x.oneCell' = true) (k : ∀ x ∈ us, x.oneCell' = true) : ∀ x ∈ vs.take off ++ us ++ vs.drop (off + us.length), x.oneCell' = true := fun u hu => by
  rcases List.mem_append.1 hu with hu | hu
  · rcases List.mem_append.1 hu with hu | hu
    · exact h u (List.mem_of_mem_take hu)
    · exact k u hu
  · exact h u (List.mem_of_mem_drop hu)
theorem run_append_room_at (w : World) (t tx ty e : TypeId) (i : TypeInfo) (ht : P.underlying t = some (.slice e)) (hi : P.info? e = some i) (b off sLen sCap : Nat) (bt : TypeId) (x : Value) (n : Nat) (news : List Value) (hs : Src P i.size tx x n news w)
    (cur : Array Value) (hg : w.heap[b]? = some (.cells cur bt (0, 0))) (hroom : sLen + n ≤ sCap) (hfit : off + sLen * i.size + news.length ≤ cur.size) :
    (Builtin.append_ #[t, tx] ty #[.slice (some ⟨b, off, none⟩) sLen sCap, x]).run P w = .ok (.slice (some ⟨b, off, none⟩) (sLen + n) sCap) (w.setRow b (cur.toList.take (off + sLen * i.size) ++ news ++ cur.toList.drop (off + sLen * i.size + news.length)).toArray) := by
  have hst := run_storeCells_at P b (off + sLen * i.size) bt news 0 cur w hg (by simpa using hfit) hs.one
  simp only [Nat.add_zero] at hst
  rcases hs.kind with ⟨e', hk⟩ | hk <;> simp [Builtin.append_, run_underlying ht, run_underlying hk, sizeOf, typeInfo, hi, hs.len, hroom, hs.cells, Addr.add_lit, hst]
def dappW (P : Program) (t tx ty : TypeId) (x y : D) (S : St) (K : D → St → Prop) : Prop := DRun P (fun vs => Builtin.append_ #[t, tx] ty vs.toArray) [x, y] S K
theorem dapp_atw {t tx ty : TypeId} {k off n c : Nat} {y : D} {K : D → St → Prop} : dapp P S t tx ty (.win k off n c) y K = dappW P t tx ty (.win k off n c) y S K := rfl
attribute [go_sem] dapp_atw
theorem dapp_nil {t tx ty e : TypeId} {own o2 : Own} {es es2 : List D} {K : D → St → Prop} (he : elT P t = some e) (h : dappW P t tx ty (.sl own es) (.sl o2 es2) S K) : dapp P S t tx ty (.sl own es) (.sl o2 es2) K := dapp_step he h
theorem dappend_in {t tx ty e : TypeId} (he : elT P t = some e) (hx : (elT P tx).isSome = true) (hi : (P.info? e).isSome = true) {k off n c m : Nat} {bt : TypeId} {cs news : List D} {y : D} {K : D → St → Prop} (hk : S.ob k = some (.box bt cs)) (hs : SrcOk S (szOf P e) y m news)
    (hroom : n + m ≤ c) (hb : n + m ≤ 140737488355328) (hfit : off + (n + m) * szOf P e ≤ cs.length) {cs' : List D} (hcs : splice cs (off + n * szOf P e) news = cs') (h : K (.win k off (n + m) c) (S.set k (.box bt cs'))) : dappW P t tx ty (.win k off n c) y S K := by
  subst hcs
  intro base η w vs hM hr
  simp only [RepL] at hr
  obtain ⟨x1, _, rfl, r1, x2, _, rfl, r2, rfl⟩ := hr
  obtain ⟨us, s1, s2⟩ := srcOk_at hM hs r2
  obtain ⟨b, bs, rfl, hbb, g1, g2, g3, g4, g5⟩ := win_live hM hk r1
  obtain ⟨i, hi⟩ := Option.isSome_iff_exists.1 hi
  have hsz : szOf P e = i.size := by simp [szOf, hi]
  have hu := elT_spec he
  have hl := g2.length
  have hf : off + n * szOf P e + us.length ≤ bs.toArray.size := by
    rw [s1.len, List.size_toArray, hl, Nat.add_assoc, ← Nat.add_mul]; exact hfit
  have hrun := run_append_room_at (P := P) w t tx ty e i hu hi b off n c bt x2 m us (hsz ▸ s1.src hx) bs.toArray g1 hroom (hsz ▸ hf)
  have G := goes_set hM hk hbb (splice_len (by rw [hs.length, Nat.add_assoc, ← Nat.add_mul]; exact hfit)) (splice_rep g2 s2) (one_splice (off := off + n * szOf P e) g3 s1.one)
  refine ⟨_, _, η, _, _, hrun, h, by simp only [Rep]; exact .inl ⟨b, hbb, rfl, hroom, hb⟩, ?_⟩
  rw [← hsz]
  exact G
theorem dappend_new {t tx ty e : TypeId} (he : elT P t = some e) (hx : (elT P tx).isSome = true) (hz : zeroT P e = true) (hz2 : zeroOk P e = true) {n c m : Nat} {x : D} {olds news : List D} {y : D} {K : D → St → Prop} (ho : SrcOk S (szOf P e) x n olds) (hxc : ∀ k' off' n' c', x = .win k' off' n' c' → c' = c) (hxs : ∀ o es, x = .sl o es → o = .full ∧ c = es.length) (hs : SrcOk S (szOf P e) y m news)
    (hgrow : c < n + m) (hb : n + m ≤ 140737488355328) (hby : (n + m) * bytesOf P e ≤ 140737488355328)
    (h : ∀ (c' : Nat) (zs : List D), n + m ≤ c' → (olds ++ news ++ zs).length = c' * szOf P e → K (.win S.next 0 (n + m) c') (S.add (.box e (olds ++ news ++ zs)))) : dappW P t tx ty x y S K := by
  intro base η w vs hM hr
  simp only [RepL] at hr
  obtain ⟨x1, _, rfl, r1, x2, _, rfl, r2, rfl⟩ := hr
  obtain ⟨us, s1, s2⟩ := srcOk_at hM hs r2
  obtain ⟨os, o1, o2⟩ := srcOk_at hM ho r1
  obtain ⟨i, z, hi, hzr, hzs, hpos, hsz, hbz⟩ := zeroT_spec hz
  obtain ⟨z2, i2, hi2, hz2r, _, hz1, _⟩ := zeroOk_spec hz2
  rw [hi] at hi2
  injection hi2 with hi2
  subst hi2
  rw [hzr] at hz2r
  injection hz2r with hz2r
  subst hz2r
  have hu := elT_spec he
  have hel : (elT P t).isSome = true := by rw [he]; rfl
  obtain ⟨A, cc, e1, _, _⟩ := o1.sl
  have hcc : cc = c := by
    cases x with
    | win k' off' n' c' =>
      obtain ⟨A', e2, _⟩ := r1.win_slice
      rw [e1] at e2
      injection e2 with _ _ e2
      rw [e2]
      exact hxc _ _ _ _ rfl
    | sl o es =>
      obtain ⟨rfl, rfl⟩ := hxs _ _ rfl
      simp only [Rep, OwnAt] at r1
      obtain ⟨A', c', e2, _, _, rfl, _⟩ := r1
      rw [e1] at e2
      injection e2 with _ _ e2
    | _ => exact ho.elim
  subst hcc
  subst e1
  have hso := o1.src hel
  have hsn := s1.src hx
  rw [hsz] at hso hsn
  have hcold := hso.cellsD
  have hrun := run_append_grow_src (P := P) w t tx ty e i z hu hi hzr A n cc os hcold x2 m us hsn hgrow (by omega) (growslice_fits hgrow (by rw [← hbz]; exact hby))
  have G1 := goes_drew hM
  have hge := grownCap_ge w (n + m) cc e
  have G3 := G1.trans (goes_name G1.mem (.box e (olds ++ news ++ (Builtin.zeroCells z.cells (grownCap w (n + m) cc e - (n + m))).toList.map ofV)) ((os ++ us).toArray ++ Builtin.zeroCells z.cells (grownCap w (n + m) cc e - (n + m))) e
    (.inl ⟨_, os ++ us ++ (Builtin.zeroCells z.cells (grownCap w (n + m) cc e - (n + m))).toList, rfl, by apply Array.ext'; simp, RepL.append (RepL.append (G1.repL o2) (G1.repL s2)) (zeroD_rep _), fun u hu' => (List.mem_append.1 hu').elim (fun hh => (List.mem_append.1 hh).elim (o1.one u) (s1.one u)) fun hh => hz1 u (zeroCells_mem hh)⟩))
  refine ⟨_, _, _, _, _, hrun, h _ _ hge ?_, ?_, G3⟩
  · have e1 := size_zeroCells z.cells (grownCap w (n + m) cc e - (n + m))
    rw [← Array.length_toList] at e1
    rw [List.length_append, List.length_append, List.length_map, ho.length, hs.length, e1, hzs, hsz, ← Nat.add_mul, ← Nat.add_mul]
    congr 1
    omega
  · simp only [Rep]
    exact .inl ⟨w.heap.size, by simp only [Names.add, ↓reduceIte]; rfl, rfl, hge, hb⟩
/-! ### Owned slices -/
theorem DRun.thaw {run : List Value → Sem Value} {args : List D} {K : D → St → Prop} (h : DRun P run args S fun d S' => ∃ S1 d1, Thaw P S' d S1 d1 ∧ K d1 S1) : DRun P run args S K := fun base η w vs hM hr => by
  obtain ⟨d, S', η', v, w', h1, ⟨S1, d1, h2, h3⟩, h4, h5⟩ := h base η w vs hM hr
  obtain ⟨η2, k1, k2⟩ := h2 base η' w' v h5.mem h4
  exact ⟨d1, S1, η2, v, w', h1, h3, k2, h5.trans k1⟩
theorem DCalls.thaw {g : FuncId} {args : List D} {K : D → St → Prop} (h : DCalls P g args S fun d S' => ∃ S1 d1, Thaw P S' d S1 d1 ∧ K d1 S1) : DCalls P g args S K := fun base η w vs hM hr => by
  rcases h base η w vs hM hr with ⟨h1, h2⟩ | ⟨d, S', η', v, w', h1, ⟨S1, d1, h2, h3⟩, h4, h5⟩
  · refine .inl ⟨h1, h2.mono fun e w' ⟨d, S', η', v, ⟨S1, d1, h2, h3⟩, he, h4, h5⟩ => ?_⟩
    obtain ⟨η2, k1, k2⟩ := h2 base η' w' v h5.mem h4
    exact ⟨d1, S1, η2, v, h3, he, k2, h5.trans k1⟩
  · obtain ⟨η2, k1, k2⟩ := h2 base η' w' v h5.mem h4
    exact .inr ⟨d1, S1, η2, v, w', h1, h3, k2, h5.trans k1⟩
theorem goes_rename (h : Mem P base S η w) {k : Nat} {o : Ob} {b : Option Nat} (hk : S.ob k = some o) (hb : η k = some b) : Goes P base S η w ((S.drop k).add o) (η.add S.next b) w := by
  have hkn : k < S.next := h.lt (by rw [hb]; rfl)
  have ob_new : ((S.drop k).add o).ob S.next = some o := by simp [St.add, St.drop]
  have ob_old : ∀ j, j ≠ S.next → ((S.drop k).add o).ob j = if j = k then none else S.ob j := fun j hj => by simp [St.add, St.drop, hj]
  have ob_some : ∀ j o', ((S.drop k).add o).ob j = some o' → (j = S.next ∧ o' = o) ∨ (j ≠ S.next ∧ j ≠ k ∧ S.ob j = some o') := fun j o' hj => by
    by_cases e : j = S.next
    · subst e; rw [ob_new] at hj; injection hj with hj; exact .inl ⟨rfl, hj.symm⟩
    · rw [ob_old j e] at hj
      by_cases e2 : j = k
      · rw [if_pos e2] at hj; cases hj
      · rw [if_neg e2] at hj; exact .inr ⟨e, e2, hj⟩
  have eta_new : (η.add S.next b) S.next = some b := by simp [Names.add]
  have eta_old : ∀ j, j ≠ S.next → (η.add S.next b) j = η j := fun j hj => by simp [Names.add, hj]
  have K : Keep (fun _ => True) w η (Fix P S η) w (η.add S.next b) (Fix P ((S.drop k).add o) (η.add S.next b)) := by
    refine ⟨Nat.le_refl _, fun q i _ hx => ⟨fun j o' hj ho => ?_, rfl⟩, fun j c _ hj => ?_, fun q cur e hq => ⟨cur, hq, rfl⟩⟩
    · rcases ob_some j o' ho with ⟨rfl, rfl⟩ | ⟨e1, e2, e3⟩
      · rw [eta_new] at hj
        injection hj with hj
        exact hx k o' (by rw [hb, hj]) hk
      · rw [eta_old j e1] at hj
        exact hx j o' hj e3
    · have : j ≠ S.next := fun e => by subst e; rw [h.dead _ (Nat.le_refl _)] at hj; cases hj
      rw [eta_old j this]; exact hj
  have src : ∀ j b', (η.add S.next b) j = some (some b') → (((S.drop k).add o).ob j).isSome = true → ∃ j', η j' = some (some b') ∧ (S.ob j').isSome = true ∧ ((j = S.next ∧ j' = k) ∨ (j ≠ S.next ∧ j ≠ k ∧ j' = j)) := fun j b' hj ho => by
    obtain ⟨o', ho⟩ := Option.isSome_iff_exists.1 ho
    rcases ob_some j o' ho with ⟨rfl, rfl⟩ | ⟨e1, e2, e3⟩
    · rw [eta_new] at hj
      injection hj with hj
      exact ⟨k, by rw [hb, hj], by rw [hk]; rfl, .inl ⟨rfl, rfl⟩⟩
    · rw [eta_old j e1] at hj
      exact ⟨j, hj, by rw [e3]; rfl, .inr ⟨e1, e2, rfl⟩⟩
  refine ⟨⟨h.base_, fun j hj => ?_, fun j hj => ?_, fun j t cs hj => ?_, fun j j' b' h1 h2 h3 h4 => ?_, fun j b' hj => ?_, fun j t cs b' h1 h2 => ?_, fun j e n b' h1 h2 => ?_, h.glob⟩, K, Below.refl _ _, fun _ => Nat.le_refl _, Loops.refl _⟩
  · have hj' : S.next + 1 ≤ j := hj
    rw [eta_old j (by omega)]; exact h.dead j (by omega)
  · have hj' : S.next + 1 ≤ j := hj
    rw [ob_old j (by omega), if_neg (by omega)]; exact h.fresh j (by omega)
  · rcases ob_some j _ hj with ⟨rfl, rfl⟩ | ⟨e1, e2, e3⟩
    · obtain ⟨b', hb'⟩ := h.live k t cs hk
      rw [hb] at hb'
      injection hb' with hb'
      exact ⟨b', by rw [eta_new, hb']⟩
    · obtain ⟨b', hb'⟩ := h.live j t cs e3
      exact ⟨b', by rw [eta_old j e1]; exact hb'⟩
  · obtain ⟨i, a1, a2, a3⟩ := src j b' h1 h3
    obtain ⟨i', c1, c2, c3⟩ := src j' b' h2 h4
    have := h.inj i i' b' a1 c1 a2 c2
    rcases a3 with ⟨rfl, rfl⟩ | ⟨a3, a4, rfl⟩ <;> rcases c3 with ⟨rfl, rfl⟩ | ⟨c3, c4, rfl⟩
    · rfl
    · exact absurd this.symm c4
    · exact absurd this a4
    · exact this
  · by_cases e : j = S.next
    · subst e
      rw [eta_new] at hj
      injection hj with hj
      exact h.in_ k b' (by rw [hb, hj])
    · rw [eta_old j e] at hj; exact h.in_ j b' hj
  · rcases ob_some j _ h1 with ⟨rfl, rfl⟩ | ⟨e1, e2, e3⟩
    · rw [eta_new] at h2
      injection h2 with h2
      obtain ⟨vs, k1, k2, k3⟩ := h.box k t cs b' hk (by rw [hb, h2])
      exact ⟨vs, k1, RepL.keep K (allL_true _) k2, k3⟩
    · rw [eta_old j e1] at h2
      obtain ⟨vs, k1, k2, k3⟩ := h.box j t cs b' e3 h2
      exact ⟨vs, k1, RepL.keep K (allL_true _) k2, k3⟩
  · rcases ob_some j _ h1 with ⟨rfl, rfl⟩ | ⟨e1, e2, e3⟩
    · rw [eta_new] at h2
      injection h2 with h2
      exact h.row k e n b' hk (by rw [hb, h2])
    · rw [eta_old j e1] at h2
      exact h.row j e n b' e3 h2
theorem thaw_rename {k off n c : Nat} {o : Ob} (hk : S.ob k = some o) : Thaw P S (.win k off n c) ((S.drop k).add o) (.win S.next off n c) := fun base η w v hM hr => by
  simp only [Rep] at hr
  rcases hr with ⟨b, h1, h2⟩ | ⟨h1, h2⟩
  · exact ⟨_, goes_rename hM hk h1, by simp only [Rep]; exact .inl ⟨b, by simp [Names.add], h2⟩⟩
  · exact ⟨_, goes_rename hM hk h1, by simp only [Rep]; exact .inr ⟨by simp [Names.add], h2⟩⟩
theorem thaw_drop (k : Nat) (d : D) : Thaw P S d (S.drop k) d := fun base η w v hM hr => ⟨η, goes_drop hM k, (goes_drop hM k).rep hr⟩
theorem thaw_nil (e : TypeId) : Thaw P S (.sl .full []) (S.add (.row e 0)) (.win S.next 0 0 0) := fun base η w v hM hr => by
  simp only [Rep, OwnAt] at hr
  obtain ⟨A, c, rfl, _, _, rfl, _⟩ := hr
  refine ⟨_, goes_bare hM e 0, ?_⟩
  unfold Rep
  exact .inr ⟨by simp [Names.add], rfl, rfl, A, rfl⟩
theorem St.set_drop (S : St) (k : Nat) (o : Ob) : (S.set k o).drop k = S.drop k := by
  unfold St.set St.drop
  congr 1
  funext j
  by_cases h : j = k <;> simp [h]
theorem St.add_set (S : St) (o o' : Ob) : (S.add o).set S.next o' = S.add o' := by
  unfold St.set St.add
  congr 1
  funext j
  by_cases h : j = S.next <;> simp [h]
theorem St.add_drop (S : St) {k : Nat} (o : Ob) (h : k < S.next) : (S.add o).drop k = (S.drop k).add o := by
  unfold St.add St.drop
  congr 1
  funext j
  by_cases h1 : j = k
  · subst h1
    simp
    omega
  · simp [h1]
theorem flat_append (l m : List D) : flat (l ++ m) = flat l ++ flat m := by simp [flat]
theorem ownOb_len {es zs : List D} {c z : Nat} (hw : ∀ d ∈ es, d.width = z) (hz : 0 < z) (h : (flat es ++ zs).length = c * z) : es.length ≤ c := by
  rw [List.length_append, dflat_length hw] at h
  rcases Nat.lt_or_ge c es.length with h' | h'
  · have : (c + 1) * z ≤ es.length * z := Nat.mul_le_mul_right _ h'
    rw [Nat.add_mul] at this
    omega
  · exact h'
theorem flat_take {es : List D} {z : Nat} (hw : ∀ d ∈ es, d.width = z) (q : Nat) : (flat es).take (q * z) = flat (es.take q) := by
  induction es generalizing q with
  | nil => simp [flat]
  | cons d es ih =>
    cases q with
    | zero => simp [flat]
    | succ q =>
      have h1 : d.cells.length = z := hw d (by simp)
      have h2 := ih (fun x hx => hw x (by simp [hx])) q
      have e1 : flat (d :: es) = d.cells ++ flat es := by simp [flat]
      have e2 : flat (d :: es.take q) = d.cells ++ flat (es.take q) := by simp [flat]
      rw [e1, List.take_succ_cons, e2, ← h2, List.take_append, h1, List.take_of_length_le (by rw [h1, Nat.add_mul]; omega)]
      congr 2
      rw [Nat.add_mul]; omega
theorem flat_drop {es : List D} {z : Nat} (hw : ∀ d ∈ es, d.width = z) (q : Nat) : (flat es).drop (q * z) = flat (es.drop q) := by
  induction es generalizing q with
  | nil => simp [flat]
  | cons d es ih =>
    cases q with
    | zero => simp
    | succ q =>
      have h1 : d.cells.length = z := hw d (by simp)
      have h2 := ih (fun x hx => hw x (by simp [hx])) q
      have e1 : flat (d :: es) = d.cells ++ flat es := by simp [flat]
      rw [e1, List.drop_succ_cons, ← h2, List.drop_append, h1, List.drop_of_length_le (by rw [h1, Nat.add_mul]; omega), List.nil_append]
      congr 1
      rw [Nat.add_mul]; omega
theorem srcOk_own {k c : Nat} {e : TypeId} {es zs : List D} {z : Nat} (hk : S.ob k = some (ownOb e es zs c)) (hc : es.length ≤ c) (hw : ∀ d ∈ es, d.width = z) {l n : Nat} (hq : l + n ≤ es.length) {c' : Nat} : SrcOk S z (.win k (l * z) n c') n (flat ((es.drop l).take n)) := by
  refine ⟨rfl, ?_⟩
  rcases Nat.eq_zero_or_pos c with rfl | h
  · have : es = [] := List.eq_nil_of_length_eq_zero (by omega)
    subst this
    have : n = 0 := by simp at hq; omega
    subst this
    exact .inl ⟨rfl, by simp [flat]⟩
  · rw [ownOb_box h] at hk
    have hf := dflat_length hw
    have hle : (l + n) * z ≤ es.length * z := Nat.mul_le_mul_right _ hq
    rw [Nat.add_mul] at hle
    refine .inr ⟨e, _, hk, ?_, ?_⟩
    · rw [List.length_append, hf]; omega
    · rw [List.drop_append_of_le_length (by rw [hf]; omega), List.take_append_of_le_length (by rw [List.length_drop, hf]; omega), flat_drop hw, flat_take fun d hd => hw d (List.mem_of_mem_drop hd)]
theorem srcOk_own0 {k c : Nat} {e : TypeId} {es zs : List D} {z : Nat} (hk : S.ob k = some (ownOb e es zs c)) (hc : es.length ≤ c) (hw : ∀ d ∈ es, d.width = z) {q : Nat} (hq : q ≤ es.length) {c' : Nat} : SrcOk S z (.win k 0 q c') q (flat (es.take q)) := by
  have := srcOk_own hk hc hw (l := 0) (n := q) (by omega) (c' := c')
  rwa [Nat.zero_mul, List.drop_zero] at this
theorem srcOk_ownA {k c : Nat} {e : TypeId} {es zs : List D} {z : Nat} (hk : S.ob k = some (ownOb e es zs c)) (hc : es.length ≤ c) (hw : ∀ d ∈ es, d.width = z) {c' : Nat} : SrcOk S z (.win k 0 es.length c') es.length (flat es) := by
  have := srcOk_own0 hk hc hw (Nat.le_refl _) (c' := c')
  rwa [List.take_of_length_le (Nat.le_refl _)] at this
theorem zeroT_pos {e : TypeId} (h : zeroT P e = true) : 0 < szOf P e ∧ (P.info? e).isSome = true := by
  obtain ⟨i, z, hi, _, _, hp, hs, _⟩ := zeroT_spec h
  exact ⟨by omega, by rw [hi]; rfl⟩
theorem dappend_own {t tx ty e : TypeId} (he : elT P t = some e) (hx : (elT P tx).isSome = true) (hz : zeroT P e = true) (hz2 : zeroOk P e = true) {k c m : Nat} {es es2 zs : List D} {y : D} {K : D → St → Prop} (hk : S.ob k = some (ownOb e es zs c)) (hl : (flat es ++ zs).length = c * szOf P e) (hw1 : ∀ d ∈ es, d.width = szOf P e) (hs : SrcOk S (szOf P e) y m (flat es2)) (hm : m = es2.length)
    (hb : es.length + es2.length ≤ 140737488355328) (hby : (es.length + es2.length) * bytesOf P e ≤ 140737488355328) (hkn : k < S.next)
    (h : ∀ (c' : Nat) (zs' : List D), es.length + es2.length ≤ c' → (flat (es ++ es2) ++ zs').length = c' * szOf P e → K (.win S.next 0 (es.length + es2.length) c') ((S.drop k).add (ownOb e (es ++ es2) zs' c'))) : dappW P t tx ty (.win k 0 es.length c) y S K := by
  subst hm
  obtain ⟨hzp, hi⟩ := zeroT_pos hz
  have hc := ownOb_len hw1 hzp hl
  refine DRun.thaw ?_
  by_cases hroom : es.length + es2.length ≤ c
  · rcases Nat.eq_zero_or_pos c with rfl | hpos
    · have e1 : es = [] := List.eq_nil_of_length_eq_zero (by omega)
      have e2 : es2 = [] := List.eq_nil_of_length_eq_zero (by omega)
      subst e1 e2
      rw [ownOb_nil] at hk
      intro base η w vs hM hr
      simp only [RepL] at hr
      obtain ⟨x1, _, rfl, r1, x2, _, rfl, r2, rfl⟩ := hr
      obtain ⟨us, s1, s2⟩ := srcOk_at hM hs r2
      have hus : us = [] := List.eq_nil_of_length_eq_zero (by rw [s1.len]; simp)
      subst hus
      obtain ⟨i, hi⟩ := Option.isSome_iff_exists.1 hi
      have hsz : szOf P e = i.size := by simp [szOf, hi]
      obtain ⟨A, rfl, _⟩ := r1.win_slice
      have hsrc := s1.src hx
      rw [hsz] at hsrc
      refine ⟨_, S, η, _, w, run_append_nothing w t tx ty e i (elT_spec he) hi A _ _ (Nat.le_refl _) x2 hsrc, ?_, r1, Goes.refl hM⟩
      exact ⟨_, _, thaw_rename hk, h 0 [] (Nat.le_refl _) (by simp [flat])⟩
    · have hk' := hk
      rw [ownOb_box hpos] at hk'
      have hfl := dflat_length hw1
      refine dappend_in he hx hi hk' hs hroom hb (by rw [Nat.zero_add, hl]; exact Nat.mul_le_mul_right _ hroom) rfl ?_
      refine ⟨_, _, thaw_rename (o := .box e (splice (flat es ++ zs) (0 + es.length * szOf P e) (flat es2))) (by simp [St.set]), ?_⟩
      have hsp : splice (flat es ++ zs) (0 + es.length * szOf P e) (flat es2) = flat (es ++ es2) ++ zs.drop (es2.length * szOf P e) := by
        rw [Nat.zero_add, ← hfl, flat_append]
        unfold splice
        rw [List.take_append_of_le_length (Nat.le_refl _), List.take_of_length_le (Nat.le_refl _), List.drop_append, hs.length]
        simp
      have h2 := h c (zs.drop (es2.length * szOf P e)) hroom (by
        rw [← hsp, splice_len, hl]
        rw [Nat.zero_add, hs.length, hl, ← Nat.add_mul]
        exact Nat.mul_le_mul_right _ hroom)
      rw [ownOb_box hpos, ← hsp] at h2
      rw [St.set_drop]
      exact h2
  · refine dappend_new he hx hz hz2 (srcOk_ownA hk hc hw1) (fun _ _ _ _ e => by injection e with _ _ _ e; exact e.symm) (fun _ _ e => by cases e) hs (by omega) hb hby fun c' zs hc' hl' => ?_
    refine ⟨_, _, thaw_drop k _, ?_⟩
    rw [St.add_drop S _ hkn]
    have := h c' zs hc' (by rw [flat_append]; exact hl')
    rw [ownOb_box (by omega), flat_append] at this
    exact this
theorem dappend_fresh {t tx ty e : TypeId} (he : elT P t = some e) (hx : (elT P tx).isSome = true) (hz : zeroT P e = true) (hz2 : zeroOk P e = true) {m : Nat} {es2 : List D} {y : D} {K : D → St → Prop} (hs : SrcOk S (szOf P e) y m (flat es2)) (hm : m = es2.length)
    (hb : es2.length ≤ 140737488355328) (hby : es2.length * bytesOf P e ≤ 140737488355328)
    (h : ∀ (c' : Nat) (zs' : List D), es2.length ≤ c' → (flat es2 ++ zs').length = c' * szOf P e → K (.win S.next 0 es2.length c') (S.add (ownOb e es2 zs' c'))) : dappW P t tx ty (.sl .full []) y S K := by
  subst hm
  obtain ⟨hzp, hi⟩ := zeroT_pos hz
  rcases Nat.eq_zero_or_pos es2.length with h0 | hpos
  · have e2 : es2 = [] := List.eq_nil_of_length_eq_zero h0
    subst e2
    refine DRun.thaw ?_
    intro base η w vs hM hr
    simp only [RepL] at hr
    obtain ⟨x1, _, rfl, r1, x2, _, rfl, r2, rfl⟩ := hr
    obtain ⟨us, s1, s2⟩ := srcOk_at hM hs r2
    have hus : us = [] := List.eq_nil_of_length_eq_zero (by rw [s1.len]; simp)
    subst hus
    obtain ⟨i, hi⟩ := Option.isSome_iff_exists.1 hi
    have hsz : szOf P e = i.size := by simp [szOf, hi]
    have hsrc := s1.src hx
    rw [hsz] at hsrc
    have r1' := r1
    simp only [Rep, OwnAt] at r1'
    obtain ⟨A, c, rfl, _, _, rfl, _⟩ := r1'
    refine ⟨_, S, η, _, w, run_append_nothing w t tx ty e i (elT_spec he) hi A _ _ (Nat.le_refl _) x2 hsrc, ?_, r1, Goes.refl hM⟩
    exact ⟨_, _, thaw_nil e, h 0 [] (Nat.le_refl _) (by simp [flat])⟩
  · refine dappend_new he hx hz hz2 (n := 0) (c := 0) (olds := []) ⟨(fun _ hx => by cases hx), rfl, rfl⟩ (fun _ _ _ _ e => by cases e) (fun _ _ e => by injection e with e1 e2; subst e1 e2; exact ⟨rfl, rfl⟩) hs (by omega) (by omega) (by rw [Nat.zero_add]; exact hby) fun c' zs hc' hl' => ?_
    simp only [List.nil_append, Nat.zero_add] at hc' hl' ⊢
    have := h c' zs hc' hl'
    rw [ownOb_box (by omega)] at this
    exact this
end
end Go.Proofs.YtonncfminojejaaDoor

namespace Go.Proofs.YtonncfminojejaaDoor
open Go.RowKit

section
variable {P : Program} {base : Nat} {S : St} {η : Names} {w : World}
theorem run_append_zeros (w : World) (t tx ty e : TypeId) (i : TypeInfo) (z : Value) (kk : IntKind) (ht : P.underlying t = some (.slice e)) (hi : P.info? e = some i) (hz : i.zero = some z) (hx : P.underlying tx = some (.int kk)) (base : Option Addr) (sLen sCap : Nat) (olds : List Value)
    (hold : (Builtin.firstCells i.size sLen (.slice base sLen sCap)).run P w.drew = .ok olds.toArray w.drew) (m : Nat) (k : IntKind)
    (hg : sCap < sLen + m) (h63 : ((sLen + m : Nat) : Int) ≤ 9223372036854775807) (hfit : Builtin.nextslicecap (sLen + m) sCap * i.bytes ≤ 281474976710656) (hm : m * i.bytes ≤ 281474976710656) (hm0 : m * i.size ≠ 0) :
    (Builtin.append_ #[t, tx] ty #[.slice base sLen sCap, .int k m]).run P w =
      .ok (.slice (some ⟨w.heap.size, 0, none⟩) (sLen + m) (grownCap w (sLen + m) sCap e))
        (w.drew.alloc (.cells (olds.toArray ++ Builtin.zeroCells z.cells m ++ Builtin.zeroCells z.cells (grownCap w (sLen + m) sCap e - (sLen + m))) e)) := by
  have hn : ¬ (sLen + m ≤ sCap) := by omega
  have h63' : ¬ (9223372036854775807 < ((sLen : Int) + (m : Int))) := by omega
  have h48' : ¬ (281474976710656 < Builtin.nextslicecap (sLen + m) sCap * i.bytes) := by omega
  have hw : IntKind.i64.wrap (m : Int) = m := (by rw [IntKind.wrap_i64]; omega)
  have h0 : ¬ ((m : Int) < 0) := by omega
  have h1 : ¬ (281474976710656 < (m : Int) * (i.bytes : Int)) := by
    have : (m : Int) * (i.bytes : Int) = ((m * i.bytes : Nat) : Int) := by simp
    omega
  simp [Builtin.append_, run_underlying ht, run_underlying hx, sizeOf, typeInfo, zeroValue, hi, hz, asInt, asIntOf, hw, h0, h1, hn, h63', h48', Question.forced, hold, newRow, grownCap]
  intro h
  exact absurd h hm0
theorem dapp_none {t tx ty e : TypeId} (he : elT P t = some e) (hx : (elT P tx).isSome = true) (hi : (P.info? e).isSome = true) {own : Own} {es : List D} {A : Option Addr} {c : Nat} {K : D → St → Prop} (k : K (.sl own es) S) : dapp P S t tx ty (.sl own es) (.v (.slice A 0 c)) K := by
  refine dapp_srcV ?_
  intro base η w vs hM hr
  simp only [RepL] at hr
  obtain ⟨x1, _, rfl, r1, x2, _, rfl, r2, rfl⟩ := hr
  have r1' := r1
  simp only [Rep] at r2 r1'
  subst r2
  obtain ⟨A0, c0, rfl, hle, _⟩ := r1'
  have hr2 : Rep P w η (Fix P S η) (.sl .no []) (.slice A 0 c) := by
    simp only [Rep]
    exact ⟨A, c, rfl, Nat.zero_le _, Nat.zero_le _, trivial, fun h => absurd h (by simp)⟩
  obtain ⟨os, o1, _⟩ := srcOk_at hM (srcOk_sl (z := szOf P e) (o := .no) (es := []) (fun x hx => by cases hx)) hr2
  obtain ⟨i, hi⟩ := Option.isSome_iff_exists.1 hi
  have hsz : szOf P e = i.size := by simp [szOf, hi]
  have hs := o1.src (tx := tx) hx
  have hos : os = [] := List.eq_nil_of_length_eq_zero (by rw [o1.len]; simp)
  subst hos
  rw [hsz] at hs
  have hrun := run_append_nothing w t tx ty e i (elT_spec he) hi A0 es.length c0 hle _ hs
  exact ⟨_, S, η, _, w, hrun, k, r1, Goes.refl hM⟩
theorem dappend_zeros {t tx ty e : TypeId} {kk : IntKind} (he : elT P t = some e) (hx : P.underlying tx = some (.int kk)) (hz : zeroT P e = true) (hz2 : zeroOk P e = true) {n c m : Nat} {k off : Nat} {olds : List D} {ik : IntKind} {K : D → St → Prop} (ho : SrcOk S (szOf P e) (.win k off n c) n olds)
    (hgrow : c < n + m) (hnc : n ≤ c) (hb : n + m ≤ 140737488355328) (hby : (n + m) * bytesOf P e ≤ 140737488355328)
    (h : ∀ (c' : Nat) (zs : List D), n + m ≤ c' → (olds ++ zs).length = c' * szOf P e → K (.win S.next 0 (n + m) c') (S.add (.box e (olds ++ zs)))) : dappW P t tx ty (.win k off n c) (.v (.int ik m)) S K := by
  intro base η w vs hM hr
  simp only [RepL] at hr
  obtain ⟨x1, _, rfl, r1, x2, _, rfl, r2, rfl⟩ := hr
  simp only [Rep] at r2
  subst r2
  obtain ⟨os, o1, o2⟩ := srcOk_at hM ho r1
  obtain ⟨i, z, hi, hzr, hzs, hpos, hsz, hbz⟩ := zeroT_spec hz
  obtain ⟨z2, i2, hi2, hz2r, _, hz1, _⟩ := zeroOk_spec hz2
  rw [hi] at hi2
  injection hi2 with hi2
  subst hi2
  rw [hzr] at hz2r
  injection hz2r with hz2r
  subst hz2r
  have hu := elT_spec he
  obtain ⟨A, e1, _⟩ := r1.win_slice
  subst e1
  have hso := o1.src (tx := t) (by rw [he]; rfl)
  rw [hsz] at hso
  have hcold := hso.cellsD
  have hmb : m * i.bytes ≤ 281474976710656 := by
    have : m * i.bytes ≤ (n + m) * i.bytes := Nat.mul_le_mul_right _ (Nat.le_add_left _ _)
    rw [hbz] at hby
    omega
  have hrun := run_append_zeros (P := P) w t tx ty e i z kk hu hi hzr hx A n c os hcold m ik hgrow (by omega) (growslice_fits hgrow (by rw [← hbz]; exact hby)) hmb (by
    have : 1 * 1 ≤ m * i.size := Nat.mul_le_mul (by omega) (by omega)
    omega)
  have G1 := goes_drew hM
  have hge := grownCap_ge w (n + m) c e
  have G3 := G1.trans (goes_name G1.mem (.box e (olds ++ ((Builtin.zeroCells z.cells m).toList ++ (Builtin.zeroCells z.cells (grownCap w (n + m) c e - (n + m))).toList).map ofV)) (os.toArray ++ Builtin.zeroCells z.cells m ++ Builtin.zeroCells z.cells (grownCap w (n + m) c e - (n + m))) e
    (.inl ⟨_, os ++ ((Builtin.zeroCells z.cells m).toList ++ (Builtin.zeroCells z.cells (grownCap w (n + m) c e - (n + m))).toList), rfl, by apply Array.ext'; simp, RepL.append (G1.repL o2) (zeroD_rep _), fun u hu' => (List.mem_append.1 hu').elim (o1.one u) fun hh => (List.mem_append.1 hh).elim (fun hh => hz1 u (zeroCells_mem hh)) fun hh => hz1 u (zeroCells_mem hh)⟩))
  refine ⟨_, _, _, _, _, hrun, h _ _ hge ?_, ?_, G3⟩
  · have e1 := size_zeroCells z.cells (grownCap w (n + m) c e - (n + m))
    have e2 := size_zeroCells z.cells m
    rw [← Array.length_toList] at e1 e2
    rw [List.length_append, List.length_map, List.length_append, ho.length, e1, e2, hzs, hsz, ← Nat.add_mul, ← Nat.add_mul]
    congr 1
    omega
  · simp only [Rep]
    exact .inl ⟨w.heap.size, by simp only [Names.add, ↓reduceIte]; rfl, rfl, hge, hb⟩
theorem dclear_win {t ty e : TypeId} (he : elT P t = some e) (hz : zeroT P e = true) (hz2 : zeroOk P e = true) {k off n c : Nat} {bt : TypeId} {cs : List D} {K : D → St → Prop} (hk : S.ob k = some (.box bt cs)) (hfit : off + n * szOf P e ≤ cs.length)
    (h : ∀ zs : List D, zs.length = n * szOf P e → K (.tup []) (S.set k (.box bt (splice cs off zs)))) : dclear P #[t] ty (.win k off n c) S K := by
  intro base η w vs hM hr
  simp only [RepL] at hr
  obtain ⟨x1, _, rfl, r1, rfl⟩ := hr
  obtain ⟨b, bs, rfl, hb, g1, g2, g3, g4, g5⟩ := win_live hM hk r1
  obtain ⟨i, z, hi, hzr, hzs, hpos, hsz, hbz⟩ := zeroT_spec hz
  obtain ⟨z2, i2, hi2, hz2r, _, hz1, _⟩ := zeroOk_spec hz2
  rw [hi] at hi2
  injection hi2 with hi2
  subst hi2
  rw [hzr] at hz2r
  injection hz2r with hz2r
  subst hz2r
  have hu := elT_spec he
  have hl := g2.length
  have e1 := size_zeroCells z.cells n
  rw [← Array.length_toList, hzs, ← hsz] at e1
  have h1 : ∀ u ∈ (Builtin.zeroCells z.cells n).toList, u.oneCell' = true := fun u hu => hz1 u (zeroCells_mem hu)
  have hst := run_storeCells_at P b off bt (Builtin.zeroCells z.cells n).toList 0 bs.toArray w g1 (by rw [Nat.add_zero, e1, List.size_toArray, hl]; exact hfit) h1
  simp only [Nat.add_zero] at hst
  have hml : ((Builtin.zeroCells z.cells n).toList.map ofV).length = n * szOf P e := by rw [List.length_map, e1]
  have G := goes_set hM hk hb (splice_len (off := off) (ds := (Builtin.zeroCells z.cells n).toList.map ofV) (by rw [hml]; exact hfit)) (splice_rep g2 (zeroD_rep _)) (one_splice g3 h1)
  refine ⟨_, _, η, .tuple #[], _, ?_, h _ hml, by simp only [Rep, RepL]; exact ⟨[], rfl, rfl⟩, G⟩
  cases n with
  | zero =>
    have : Builtin.zeroCells z.cells 0 = #[] := by simp [Builtin.zeroCells]
    simp only [this, List.append_nil, List.length_nil, Nat.add_zero, List.take_append_drop]
    have e0 : w.setRow b bs.toArray = w := setRow_self w b bs.toArray bt (0, 0) g1
    simp [Builtin.clear_, run_underlying hu, e0]
  | succ n => simp [Builtin.clear_, run_underlying hu, zeroValue, typeInfo, hi, hzr, hst]
theorem splice_at {B C X : List D} {o : Nat} (ho : o = B.length) : splice (B ++ C) o X = B ++ X ++ C.drop X.length := by
  subst ho
  unfold splice
  rw [List.take_append_of_le_length (Nat.le_refl _), List.take_of_length_le (Nat.le_refl _), List.drop_append, List.drop_of_length_le (by omega), List.nil_append]
  congr 2
  omega
def OwnD (P : Program) (S : St) (e : TypeId) (es : List D) (d : D) : Prop := (es = [] ∧ d = .sl .full []) ∨ ∃ k c zs, d = .win k 0 es.length c ∧ S.ob k = some (ownOb e es zs c) ∧ (flat es ++ zs).length = c * szOf P e ∧ k < S.next
def St.left (S : St) : D → St
  | .win k _ _ _ => S.drop k
  | _ => S
theorem dapp_ownD {t tx ty e : TypeId} (he : elT P t = some e) (hx : (elT P tx).isSome = true) (hz : zeroT P e = true) (hz2 : zeroOk P e = true) {d : D} {es es2 : List D} {o2 : Own} {K : D → St → Prop} (hd : OwnD P S e es d) (hw1 : ∀ d ∈ es, d.width = szOf P e) (hw2 : ∀ d ∈ es2, d.width = szOf P e)
    (hb : es.length + es2.length ≤ 140737488355328) (hby : (es.length + es2.length) * bytesOf P e ≤ 140737488355328)
    (h : ∀ (c' : Nat) (zs' : List D), (flat (es ++ es2) ++ zs').length = c' * szOf P e → K (.win S.next 0 (es.length + es2.length) c') ((S.left d).add (ownOb e (es ++ es2) zs' c'))) : dapp P S t tx ty d (.sl o2 es2) K := by
  rcases hd with ⟨rfl, rfl⟩ | ⟨k, c, zs, rfl, hk, hl, hkn⟩
  · refine dapp_nil he (dappend_fresh he hx hz hz2 (srcOk_sl hw2) rfl (by simpa using hb) (by simpa using hby) fun c' zs' _ h2 => ?_)
    have := h c' zs' (by simpa using h2)
    simpa [St.left] using this
  · rw [dapp_atw]
    exact dappend_own he hx hz hz2 hk hl hw1 (srcOk_sl hw2) rfl hb hby hkn fun c' zs' _ h2 => h c' zs' h2
theorem OwnD.sub {S0 T : St} (hS : S0.WF) (hs : S0.Sub T) {e : TypeId} {es : List D} {d : D} (hd : OwnD P T e es d) (hlo : ∀ k o n c, d = .win k o n c → S0.next ≤ k) : S0.Sub (T.left d) := by
  rcases hd with ⟨_, rfl⟩ | ⟨k, c, zs, rfl, _⟩
  · exact hs
  · exact ⟨hs.next, fun j o hj => by
      have h1 := hS.lt hj
      have h2 := hlo _ _ _ _ rfl
      show (if j = k then none else T.ob j) = some o
      rw [if_neg (by omega)]
      exact hs.ob j o hj⟩
theorem left_next (T : St) (d : D) : (T.left d).next = T.next := by cases d <;> rfl
theorem OwnD.win {e : TypeId} {es : List D} {d : D} (hd : OwnD P S e es d) : ∃ S1 k c zs, Thaw P S d S1 (.win k 0 es.length c) ∧ (S1 = S ∨ S1 = S.add (.row e 0)) ∧ S1.ob k = some (ownOb e es zs c) ∧ (flat es ++ zs).length = c * szOf P e ∧ k < S1.next ∧ ((∃ o n c', d = .win k o n c') ∨ k = S.next) := by
  rcases hd with ⟨rfl, rfl⟩ | ⟨k, c, zs, rfl, h1, h2, h3⟩
  · exact ⟨_, S.next, 0, [], thaw_nil e, .inr rfl, by simp [St.add, ownOb_nil], by simp [flat], by simp [St.add], .inr rfl⟩
  · exact ⟨S, k, c, zs, Thaw.refl _ _ _, .inl rfl, h1, h2, h3, .inl ⟨_, _, _, rfl⟩⟩
end
end Go.Proofs.YtonncfminojejaaDoor

namespace Go.Proofs.YtonncfminojejaaDoor
open Go.RowKit
def DQ.inl (P : Program) (rs : List ResultVar) (K : D → St → Prop) : DQ
  | .exit _, _, _ => False
  | _, f, S' => dresL P f S' rs fun ds => K (one ds) S'
theorem dcalls_inline {P : Program} (hm : P.follows .mixedOrders = true) {g : FuncId} {fn : Func} {c : Code} (hf : P.funcs[g]? = some fn) (hb : fn.body = some c) (hent : ∀ vs w, (callFunc g vs).run P w = .ok (.enter g vs) w) {rs : List ResultVar} (hrs : fn.results.toList = rs) {args : List D} (hok : (codeOk fn.ntmps c && fn.results.all (resOk fn.ntmps) && Nat.ble args.length fn.ntmps) = true) {S : St} {K : D → St → Prop}
    (h : S.WF → dwp P c (DQ.inl P rs K) (argF args) S) : DCalls P g args S K := by
  subst hrs
  intro base η w vs hM hr
  refine .inl ⟨hent _ _, ?_⟩
  simp only [Bool.and_eq_true] at hok
  obtain ⟨⟨hok1, hok2⟩, hok3⟩ := hok
  have hlen : args.length ≤ fn.ntmps := Nat.le_of_ble_eq_true hok3
  have hl := hr.length
  have hsz : (vs.toArray ++ Array.replicate (fn.ntmps - vs.toArray.size) undef).size = fn.ntmps := by simp; omega
  refine calls_of_wp hf hb ?_
  refine dwp_sound hm c (a := { tmps := vs.toArray ++ Array.replicate (fn.ntmps - vs.toArray.size) undef, defers := [] }) (by rw [hsz]; exact hok1) hM (fun t ht => ?_) (h hM.fresh) fun e f' S' η' w' a' k1 k2 k3 k4 k5 => ?_
  · rw [hsz] at ht
    simp only [argF]
    by_cases h1 : t < vs.length
    · obtain ⟨x, hx, hr'⟩ := hr.get t (List.getElem?_eq_getElem (by omega : t < args.length))
      have e1 : args.getD t undefD = args[t] := by rw [List.getD_eq_getElem?_getD, List.getElem?_eq_getElem (by omega : t < args.length)]; rfl
      have e2 : (vs.toArray ++ Array.replicate (fn.ntmps - vs.toArray.size) undef).getD t undef = x := by
        rw [Array.getD_eq_getD_getElem?, Array.getElem?_append_left (by simpa using h1)]
        simp [hx]
      rw [e1, e2]
      exact hr'
    · have e1 : args.getD t undefD = undefD := by rw [List.getD_eq_getElem?_getD, List.getElem?_eq_none (by omega)]; rfl
      have e2 : (vs.toArray ++ Array.replicate (fn.ntmps - vs.toArray.size) undef).getD t undef = undef := by
        rw [Array.getD_eq_getD_getElem?, Array.getElem?_append_right (by simpa using h1)]
        rw [Array.getElem?_replicate]
        split <;> rfl
      rw [e1, e2]
      simp only [Rep, RepL]
      exact ⟨[], rfl, rfl⟩
  · have hsz' : a'.tmps.size = fn.ntmps := by rw [k4]; exact hsz
    have hd' : a'.defers = [] := k5
    have fin : dresL P f' S' fn.results.toList (fun ds => K (one ds) S') → a'.defers = [] ∧ ∃ v, (results fn a'.tmps).run P w' = .ok v w' ∧ ∃ d S'' η'' u, K d S'' ∧ Ending.returned v = .returned u ∧ Rep P w' η'' (Fix P S'' η'') d u ∧ Goes P base S η w S'' η'' w' := fun hres => by
      obtain ⟨ds, v, hk, q7, q8⟩ := results_sound k2.mem k3 (by rw [hsz']; exact hok2) hres
      exact ⟨hd', v, q8, one ds, S', η', v, hk, rfl, q7, k2⟩
    cases e with
    | normal => exact fin k1
    | ret => exact fin k1
    | exit i => exact k1.elim
section
variable {P : Program} {S : St} {f : Fm} {K : D → St → Prop}
theorem inl_ret (t : Tmp) (S' : St) : DQ.inl P [.tmp t] K .ret f S' = K (f t) S' := by simp [DQ.inl, dresL, dres, onVal, one]
theorem inl_normal (t : Tmp) (S' : St) : DQ.inl P [.tmp t] K .normal f S' = K (f t) S' := by simp [DQ.inl, dresL, dres, onVal, one]
theorem inl_ret2 (t u : Tmp) (S' : St) : DQ.inl P [.tmp t, .tmp u] K .ret f S' = K (.tup [f t, f u]) S' := by simp [DQ.inl, dresL, dres, onVal, one]
theorem inl_normal2 (t u : Tmp) (S' : St) : DQ.inl P [.tmp t, .tmp u] K .normal f S' = K (.tup [f t, f u]) S' := by simp [DQ.inl, dresL, dres, onVal, one]
theorem inl_ret0 (S' : St) : DQ.inl P [] K .ret f S' = K undefD S' := by simp [DQ.inl, dresL, one]
theorem inl_normal0 (S' : St) : DQ.inl P [] K .normal f S' = K undefD S' := by simp [DQ.inl, dresL, one]
end
attribute [go_sem] inl_ret inl_normal inl_ret2 inl_normal2 inl_ret0 inl_normal0
def loopN (P : Program) (c : Code) (Q : DQ) : Nat → Fm → St → Prop
  | 0, _, _ => False
  | n + 1, f, S => dwp P c (DQ.then (loopN P c Q n) Q) f S
theorem dloop_fuel {P : Program} {c : Code} {Q : DQ} {f : Fm} {S : St} (n : Nat) (hS : S.WF) (hc : wrOk (fun _ => true) c = true) (h : loopN P c Q n f S) : DLoop (dwp P c) Q f S := by
  refine dloop_down (fun _ => true) hc hS (fun m g T => loopN P c Q m g T) n h fun m g T hT _ hI => ?_
  cases m with
  | zero => exact hI.elim
  | succ m =>
    refine dwp_mono c (fun e f2 S2 hq => ?_) hI
    cases e with
    | normal => exact ⟨m, S2.ob, by omega, fun _ _ h => h, hq⟩
    | exit i => exact hq
    | ret => exact hq
theorem loopN_eq {P : Program} {c : Code} {Q : DQ} {f : Fm} {S : St} (n : Nat) : loopN P c Q (n + 1) f S = dwp P c (DQ.then (loopN P c Q n) Q) f S := Eq.trans (Eq.refl _) (Eq.refl _)
end Go.Proofs.YtonncfminojejaaDoor
