/- Texts of a proof, part 5. Conditions: none. -/
import Derived.Test.YtjjhjhjphhpeiaaL4
import Derived.Test.YtjjhjhjphhpeiaaProg
import Derived.KernelRfl
set_option linter.unusedVariables false
set_option linter.unusedSimpArgs false
namespace Go.Proofs.Ytjjhjhjphhpeiaa

@[go_sem] theorem okT_1 : okT Try.prog 1 = true := by kernel_rfl
@[go_sem] theorem szOf_1 : szOf Try.prog 1 = 1 := by kernel_rfl
@[go_sem] theorem aggT_1 : aggT Try.prog 1 = false := by kernel_rfl
@[go_sem] theorem undS_1 : (Try.prog.underlying 1).isSome = true := by kernel_rfl
@[go_sem] theorem infS_1 : (Try.prog.info? 1).isSome = true := by kernel_rfl
@[go_sem] theorem ifaceT_1 : ifaceT Try.prog 1 = false := by kernel_rfl
@[go_sem] theorem ptrT_1 : ptrT Try.prog 1 = false := by kernel_rfl
@[go_sem] theorem zeroT_1 : zeroT Try.prog 1 = true := by kernel_rfl
@[go_sem] theorem zeroOk_1 : zeroOk Try.prog 1 = true := by kernel_rfl
@[go_sem] theorem bytesOf_1 : bytesOf Try.prog 1 = 8 := by kernel_rfl
@[go_sem] theorem zeroD_1 : zeroD Try.prog 1 = [.v .nilFunc] := by kernel_rfl
@[go_sem] theorem okT_2 : okT Try.prog 2 = true := by kernel_rfl
@[go_sem] theorem szOf_2 : szOf Try.prog 2 = 1 := by kernel_rfl
@[go_sem] theorem aggT_2 : aggT Try.prog 2 = false := by kernel_rfl
@[go_sem] theorem undS_2 : (Try.prog.underlying 2).isSome = true := by kernel_rfl
@[go_sem] theorem infS_2 : (Try.prog.info? 2).isSome = true := by kernel_rfl
@[go_sem] theorem ifaceT_2 : ifaceT Try.prog 2 = false := by kernel_rfl
@[go_sem] theorem ptrT_2 : ptrT Try.prog 2 = false := by kernel_rfl
@[go_sem] theorem zeroT_2 : zeroT Try.prog 2 = true := by kernel_rfl
@[go_sem] theorem zeroOk_2 : zeroOk Try.prog 2 = true := by kernel_rfl
@[go_sem] theorem bytesOf_2 : bytesOf Try.prog 2 = 8 := by kernel_rfl
@[go_sem] theorem zeroD_2 : zeroD Try.prog 2 = [.v (.int .i64 0)] := by kernel_rfl
@[go_sem] theorem okT_3 : okT Try.prog 3 = true := by kernel_rfl
@[go_sem] theorem szOf_3 : szOf Try.prog 3 = 1 := by kernel_rfl
@[go_sem] theorem aggT_3 : aggT Try.prog 3 = false := by kernel_rfl
@[go_sem] theorem undS_3 : (Try.prog.underlying 3).isSome = true := by kernel_rfl
@[go_sem] theorem infS_3 : (Try.prog.info? 3).isSome = true := by kernel_rfl
@[go_sem] theorem ifaceT_3 : ifaceT Try.prog 3 = false := by kernel_rfl
@[go_sem] theorem ptrT_3 : ptrT Try.prog 3 = false := by kernel_rfl
@[go_sem] theorem zeroT_3 : zeroT Try.prog 3 = true := by kernel_rfl
@[go_sem] theorem zeroOk_3 : zeroOk Try.prog 3 = true := by kernel_rfl
@[go_sem] theorem bytesOf_3 : bytesOf Try.prog 3 = 8 := by kernel_rfl
@[go_sem] theorem zeroD_3 : zeroD Try.prog 3 = [.v (.int .i64 0)] := by kernel_rfl
@[go_sem] theorem okT_4 : okT Try.prog 4 = true := by kernel_rfl
@[go_sem] theorem szOf_4 : szOf Try.prog 4 = 1 := by kernel_rfl
@[go_sem] theorem aggT_4 : aggT Try.prog 4 = false := by kernel_rfl
@[go_sem] theorem undS_4 : (Try.prog.underlying 4).isSome = true := by kernel_rfl
@[go_sem] theorem infS_4 : (Try.prog.info? 4).isSome = true := by kernel_rfl
@[go_sem] theorem ifaceT_4 : ifaceT Try.prog 4 = false := by kernel_rfl
@[go_sem] theorem ptrT_4 : ptrT Try.prog 4 = false := by kernel_rfl
@[go_sem] theorem zeroT_4 : zeroT Try.prog 4 = true := by kernel_rfl
@[go_sem] theorem zeroOk_4 : zeroOk Try.prog 4 = true := by kernel_rfl
@[go_sem] theorem bytesOf_4 : bytesOf Try.prog 4 = 1 := by kernel_rfl
@[go_sem] theorem zeroD_4 : zeroD Try.prog 4 = [.v (.bool false)] := by kernel_rfl
@[go_sem] theorem okT_5 : okT Try.prog 5 = true := by kernel_rfl
@[go_sem] theorem szOf_5 : szOf Try.prog 5 = 1 := by kernel_rfl
@[go_sem] theorem aggT_5 : aggT Try.prog 5 = false := by kernel_rfl
@[go_sem] theorem undS_5 : (Try.prog.underlying 5).isSome = true := by kernel_rfl
@[go_sem] theorem infS_5 : (Try.prog.info? 5).isSome = true := by kernel_rfl
@[go_sem] theorem ifaceT_5 : ifaceT Try.prog 5 = false := by kernel_rfl
@[go_sem] theorem ptrT_5 : ptrT Try.prog 5 = false := by kernel_rfl
@[go_sem] theorem zeroT_5 : zeroT Try.prog 5 = true := by kernel_rfl
@[go_sem] theorem zeroOk_5 : zeroOk Try.prog 5 = true := by kernel_rfl
@[go_sem] theorem bytesOf_5 : bytesOf Try.prog 5 = 1 := by kernel_rfl
@[go_sem] theorem zeroD_5 : zeroD Try.prog 5 = [.v (.int .u8 0)] := by kernel_rfl
@[go_sem] theorem okT_6 : okT Try.prog 6 = true := by kernel_rfl
@[go_sem] theorem szOf_6 : szOf Try.prog 6 = 1 := by kernel_rfl
@[go_sem] theorem aggT_6 : aggT Try.prog 6 = false := by kernel_rfl
@[go_sem] theorem undS_6 : (Try.prog.underlying 6).isSome = true := by kernel_rfl
@[go_sem] theorem infS_6 : (Try.prog.info? 6).isSome = true := by kernel_rfl
@[go_sem] theorem ifaceT_6 : ifaceT Try.prog 6 = false := by kernel_rfl
@[go_sem] theorem ptrT_6 : ptrT Try.prog 6 = false := by kernel_rfl
@[go_sem] theorem zeroT_6 : zeroT Try.prog 6 = true := by kernel_rfl
@[go_sem] theorem zeroOk_6 : zeroOk Try.prog 6 = true := by kernel_rfl
@[go_sem] theorem bytesOf_6 : bytesOf Try.prog 6 = 1 := by kernel_rfl
@[go_sem] theorem zeroD_6 : zeroD Try.prog 6 = [.v (.int .u8 0)] := by kernel_rfl
@[go_sem] theorem okT_7 : okT Try.prog 7 = true := by kernel_rfl
@[go_sem] theorem szOf_7 : szOf Try.prog 7 = 4 := by kernel_rfl
@[go_sem] theorem aggT_7 : aggT Try.prog 7 = true := by kernel_rfl
@[go_sem] theorem undS_7 : (Try.prog.underlying 7).isSome = true := by kernel_rfl
@[go_sem] theorem infS_7 : (Try.prog.info? 7).isSome = true := by kernel_rfl
@[go_sem] theorem ifaceT_7 : ifaceT Try.prog 7 = false := by kernel_rfl
@[go_sem] theorem ptrT_7 : ptrT Try.prog 7 = false := by kernel_rfl
@[go_sem] theorem zeroT_7 : zeroT Try.prog 7 = true := by kernel_rfl
@[go_sem] theorem zeroOk_7 : zeroOk Try.prog 7 = true := by kernel_rfl
@[go_sem] theorem bytesOf_7 : bytesOf Try.prog 7 = 24 := by kernel_rfl
@[go_sem] theorem zeroD_7 : zeroD Try.prog 7 = [.v (.int .i64 0), .v (.int .i64 0), .v (.bool false), .v (.int .u8 0)] := by kernel_rfl
@[go_sem] theorem fld_7_0 : fld Try.prog 7 0 = some (0, 2) := by kernel_rfl
@[go_sem] theorem fld_7_1 : fld Try.prog 7 1 = some (1, 3) := by kernel_rfl
@[go_sem] theorem fld_7_2 : fld Try.prog 7 2 = some (2, 4) := by kernel_rfl
@[go_sem] theorem fld_7_3 : fld Try.prog 7 3 = some (3, 6) := by kernel_rfl
@[go_sem] theorem okT_8 : okT Try.prog 8 = true := by kernel_rfl
@[go_sem] theorem szOf_8 : szOf Try.prog 8 = 4 := by kernel_rfl
@[go_sem] theorem aggT_8 : aggT Try.prog 8 = true := by kernel_rfl
@[go_sem] theorem undS_8 : (Try.prog.underlying 8).isSome = true := by kernel_rfl
@[go_sem] theorem infS_8 : (Try.prog.info? 8).isSome = true := by kernel_rfl
@[go_sem] theorem ifaceT_8 : ifaceT Try.prog 8 = false := by kernel_rfl
@[go_sem] theorem ptrT_8 : ptrT Try.prog 8 = false := by kernel_rfl
@[go_sem] theorem zeroT_8 : zeroT Try.prog 8 = true := by kernel_rfl
@[go_sem] theorem zeroOk_8 : zeroOk Try.prog 8 = true := by kernel_rfl
@[go_sem] theorem bytesOf_8 : bytesOf Try.prog 8 = 24 := by kernel_rfl
@[go_sem] theorem zeroD_8 : zeroD Try.prog 8 = [.v (.int .i64 0), .v (.int .i64 0), .v (.bool false), .v (.int .u8 0)] := by kernel_rfl
@[go_sem] theorem fld_8_0 : fld Try.prog 8 0 = some (0, 2) := by kernel_rfl
@[go_sem] theorem fld_8_1 : fld Try.prog 8 1 = some (1, 3) := by kernel_rfl
@[go_sem] theorem fld_8_2 : fld Try.prog 8 2 = some (2, 4) := by kernel_rfl
@[go_sem] theorem fld_8_3 : fld Try.prog 8 3 = some (3, 6) := by kernel_rfl
@[go_sem] theorem okT_9 : okT Try.prog 9 = true := by kernel_rfl
@[go_sem] theorem szOf_9 : szOf Try.prog 9 = 1 := by kernel_rfl
@[go_sem] theorem aggT_9 : aggT Try.prog 9 = false := by kernel_rfl
@[go_sem] theorem undS_9 : (Try.prog.underlying 9).isSome = true := by kernel_rfl
@[go_sem] theorem infS_9 : (Try.prog.info? 9).isSome = true := by kernel_rfl
@[go_sem] theorem ifaceT_9 : ifaceT Try.prog 9 = false := by kernel_rfl
@[go_sem] theorem ptrT_9 : ptrT Try.prog 9 = false := by kernel_rfl
@[go_sem] theorem zeroT_9 : zeroT Try.prog 9 = true := by kernel_rfl
@[go_sem] theorem zeroOk_9 : zeroOk Try.prog 9 = true := by kernel_rfl
@[go_sem] theorem bytesOf_9 : bytesOf Try.prog 9 = 16 := by kernel_rfl
@[go_sem] theorem zeroD_9 : zeroD Try.prog 9 = [.v (.string ⟨#[]⟩)] := by kernel_rfl
@[go_sem] theorem strT_9 : strT Try.prog 9 = true := by kernel_rfl
@[go_sem] theorem okT_10 : okT Try.prog 10 = true := by kernel_rfl
@[go_sem] theorem szOf_10 : szOf Try.prog 10 = 1 := by kernel_rfl
@[go_sem] theorem aggT_10 : aggT Try.prog 10 = false := by kernel_rfl
@[go_sem] theorem undS_10 : (Try.prog.underlying 10).isSome = true := by kernel_rfl
@[go_sem] theorem infS_10 : (Try.prog.info? 10).isSome = true := by kernel_rfl
@[go_sem] theorem ifaceT_10 : ifaceT Try.prog 10 = false := by kernel_rfl
@[go_sem] theorem ptrT_10 : ptrT Try.prog 10 = false := by kernel_rfl
@[go_sem] theorem zeroT_10 : zeroT Try.prog 10 = true := by kernel_rfl
@[go_sem] theorem zeroOk_10 : zeroOk Try.prog 10 = true := by kernel_rfl
@[go_sem] theorem bytesOf_10 : bytesOf Try.prog 10 = 16 := by kernel_rfl
@[go_sem] theorem zeroD_10 : zeroD Try.prog 10 = [.v (.string ⟨#[]⟩)] := by kernel_rfl
@[go_sem] theorem strT_10 : strT Try.prog 10 = true := by kernel_rfl
@[go_sem] theorem okT_11 : okT Try.prog 11 = true := by kernel_rfl
@[go_sem] theorem szOf_11 : szOf Try.prog 11 = 1 := by kernel_rfl
@[go_sem] theorem aggT_11 : aggT Try.prog 11 = false := by kernel_rfl
@[go_sem] theorem undS_11 : (Try.prog.underlying 11).isSome = true := by kernel_rfl
@[go_sem] theorem infS_11 : (Try.prog.info? 11).isSome = true := by kernel_rfl
@[go_sem] theorem ifaceT_11 : ifaceT Try.prog 11 = false := by kernel_rfl
@[go_sem] theorem ptrT_11 : ptrT Try.prog 11 = false := by kernel_rfl
@[go_sem] theorem zeroT_11 : zeroT Try.prog 11 = true := by kernel_rfl
@[go_sem] theorem zeroOk_11 : zeroOk Try.prog 11 = true := by kernel_rfl
@[go_sem] theorem bytesOf_11 : bytesOf Try.prog 11 = 16 := by kernel_rfl
@[go_sem] theorem zeroD_11 : zeroD Try.prog 11 = [.v (.string ⟨#[]⟩)] := by kernel_rfl
@[go_sem] theorem strT_11 : strT Try.prog 11 = true := by kernel_rfl
@[go_sem] theorem okT_12 : okT Try.prog 12 = true := by kernel_rfl
@[go_sem] theorem szOf_12 : szOf Try.prog 12 = 1 := by kernel_rfl
@[go_sem] theorem aggT_12 : aggT Try.prog 12 = false := by kernel_rfl
@[go_sem] theorem undS_12 : (Try.prog.underlying 12).isSome = true := by kernel_rfl
@[go_sem] theorem infS_12 : (Try.prog.info? 12).isSome = true := by kernel_rfl
@[go_sem] theorem ifaceT_12 : ifaceT Try.prog 12 = false := by kernel_rfl
@[go_sem] theorem ptrT_12 : ptrT Try.prog 12 = false := by kernel_rfl
@[go_sem] theorem zeroT_12 : zeroT Try.prog 12 = true := by kernel_rfl
@[go_sem] theorem zeroOk_12 : zeroOk Try.prog 12 = true := by kernel_rfl
@[go_sem] theorem bytesOf_12 : bytesOf Try.prog 12 = 8 := by kernel_rfl
@[go_sem] theorem zeroD_12 : zeroD Try.prog 12 = [.v (.int .u64 0)] := by kernel_rfl
@[go_sem] theorem okT_13 : okT Try.prog 13 = true := by kernel_rfl
@[go_sem] theorem szOf_13 : szOf Try.prog 13 = 2 := by kernel_rfl
@[go_sem] theorem aggT_13 : aggT Try.prog 13 = true := by kernel_rfl
@[go_sem] theorem undS_13 : (Try.prog.underlying 13).isSome = true := by kernel_rfl
@[go_sem] theorem infS_13 : (Try.prog.info? 13).isSome = true := by kernel_rfl
@[go_sem] theorem ifaceT_13 : ifaceT Try.prog 13 = false := by kernel_rfl
@[go_sem] theorem ptrT_13 : ptrT Try.prog 13 = false := by kernel_rfl
@[go_sem] theorem zeroT_13 : zeroT Try.prog 13 = true := by kernel_rfl
@[go_sem] theorem zeroOk_13 : zeroOk Try.prog 13 = true := by kernel_rfl
@[go_sem] theorem bytesOf_13 : bytesOf Try.prog 13 = 24 := by kernel_rfl
@[go_sem] theorem zeroD_13 : zeroD Try.prog 13 = [.v (.string ⟨#[]⟩), .v (.int .u64 0)] := by kernel_rfl
@[go_sem] theorem fld_13_0 : fld Try.prog 13 0 = some (0, 9) := by kernel_rfl
@[go_sem] theorem fld_13_1 : fld Try.prog 13 1 = some (1, 12) := by kernel_rfl
@[go_sem] theorem okT_14 : okT Try.prog 14 = true := by kernel_rfl
@[go_sem] theorem szOf_14 : szOf Try.prog 14 = 2 := by kernel_rfl
@[go_sem] theorem aggT_14 : aggT Try.prog 14 = true := by kernel_rfl
@[go_sem] theorem undS_14 : (Try.prog.underlying 14).isSome = true := by kernel_rfl
@[go_sem] theorem infS_14 : (Try.prog.info? 14).isSome = true := by kernel_rfl
@[go_sem] theorem ifaceT_14 : ifaceT Try.prog 14 = false := by kernel_rfl
@[go_sem] theorem ptrT_14 : ptrT Try.prog 14 = false := by kernel_rfl
@[go_sem] theorem zeroT_14 : zeroT Try.prog 14 = true := by kernel_rfl
@[go_sem] theorem zeroOk_14 : zeroOk Try.prog 14 = true := by kernel_rfl
@[go_sem] theorem bytesOf_14 : bytesOf Try.prog 14 = 24 := by kernel_rfl
@[go_sem] theorem zeroD_14 : zeroD Try.prog 14 = [.v (.string ⟨#[]⟩), .v (.int .u64 0)] := by kernel_rfl
@[go_sem] theorem fld_14_0 : fld Try.prog 14 0 = some (0, 9) := by kernel_rfl
@[go_sem] theorem fld_14_1 : fld Try.prog 14 1 = some (1, 12) := by kernel_rfl
@[go_sem] theorem okT_15 : okT Try.prog 15 = true := by kernel_rfl
@[go_sem] theorem szOf_15 : szOf Try.prog 15 = 1 := by kernel_rfl
@[go_sem] theorem aggT_15 : aggT Try.prog 15 = false := by kernel_rfl
@[go_sem] theorem undS_15 : (Try.prog.underlying 15).isSome = true := by kernel_rfl
@[go_sem] theorem infS_15 : (Try.prog.info? 15).isSome = true := by kernel_rfl
@[go_sem] theorem ifaceT_15 : ifaceT Try.prog 15 = false := by kernel_rfl
@[go_sem] theorem ptrT_15 : ptrT Try.prog 15 = true := by kernel_rfl
@[go_sem] theorem zeroT_15 : zeroT Try.prog 15 = true := by kernel_rfl
@[go_sem] theorem zeroOk_15 : zeroOk Try.prog 15 = true := by kernel_rfl
@[go_sem] theorem bytesOf_15 : bytesOf Try.prog 15 = 8 := by kernel_rfl
@[go_sem] theorem zeroD_15 : zeroD Try.prog 15 = [.v (.pointer none)] := by kernel_rfl
@[go_sem] theorem okT_17 : okT Try.prog 17 = true := by kernel_rfl
@[go_sem] theorem szOf_17 : szOf Try.prog 17 = 1 := by kernel_rfl
@[go_sem] theorem aggT_17 : aggT Try.prog 17 = false := by kernel_rfl
@[go_sem] theorem undS_17 : (Try.prog.underlying 17).isSome = true := by kernel_rfl
@[go_sem] theorem infS_17 : (Try.prog.info? 17).isSome = true := by kernel_rfl
@[go_sem] theorem ifaceT_17 : ifaceT Try.prog 17 = false := by kernel_rfl
@[go_sem] theorem ptrT_17 : ptrT Try.prog 17 = true := by kernel_rfl
@[go_sem] theorem zeroT_17 : zeroT Try.prog 17 = true := by kernel_rfl
@[go_sem] theorem zeroOk_17 : zeroOk Try.prog 17 = true := by kernel_rfl
@[go_sem] theorem bytesOf_17 : bytesOf Try.prog 17 = 8 := by kernel_rfl
@[go_sem] theorem zeroD_17 : zeroD Try.prog 17 = [.v (.pointer none)] := by kernel_rfl
@[go_sem] theorem okT_18 : okT Try.prog 18 = true := by kernel_rfl
@[go_sem] theorem szOf_18 : szOf Try.prog 18 = 1 := by kernel_rfl
@[go_sem] theorem aggT_18 : aggT Try.prog 18 = true := by kernel_rfl
@[go_sem] theorem undS_18 : (Try.prog.underlying 18).isSome = true := by kernel_rfl
@[go_sem] theorem infS_18 : (Try.prog.info? 18).isSome = true := by kernel_rfl
@[go_sem] theorem ifaceT_18 : ifaceT Try.prog 18 = false := by kernel_rfl
@[go_sem] theorem ptrT_18 : ptrT Try.prog 18 = false := by kernel_rfl
@[go_sem] theorem zeroT_18 : zeroT Try.prog 18 = true := by kernel_rfl
@[go_sem] theorem zeroOk_18 : zeroOk Try.prog 18 = true := by kernel_rfl
@[go_sem] theorem bytesOf_18 : bytesOf Try.prog 18 = 8 := by kernel_rfl
@[go_sem] theorem zeroD_18 : zeroD Try.prog 18 = [.v (.pointer none)] := by kernel_rfl
@[go_sem] theorem fld_18_0 : fld Try.prog 18 0 = some (0, 17) := by kernel_rfl
@[go_sem] theorem okT_19 : okT Try.prog 19 = true := by kernel_rfl
@[go_sem] theorem szOf_19 : szOf Try.prog 19 = 1 := by kernel_rfl
@[go_sem] theorem aggT_19 : aggT Try.prog 19 = true := by kernel_rfl
@[go_sem] theorem undS_19 : (Try.prog.underlying 19).isSome = true := by kernel_rfl
@[go_sem] theorem infS_19 : (Try.prog.info? 19).isSome = true := by kernel_rfl
@[go_sem] theorem ifaceT_19 : ifaceT Try.prog 19 = false := by kernel_rfl
@[go_sem] theorem ptrT_19 : ptrT Try.prog 19 = false := by kernel_rfl
@[go_sem] theorem zeroT_19 : zeroT Try.prog 19 = true := by kernel_rfl
@[go_sem] theorem zeroOk_19 : zeroOk Try.prog 19 = true := by kernel_rfl
@[go_sem] theorem bytesOf_19 : bytesOf Try.prog 19 = 8 := by kernel_rfl
@[go_sem] theorem zeroD_19 : zeroD Try.prog 19 = [.v (.pointer none)] := by kernel_rfl
@[go_sem] theorem fld_19_0 : fld Try.prog 19 0 = some (0, 17) := by kernel_rfl
@[go_sem] theorem okT_21 : okT Try.prog 21 = true := by kernel_rfl
@[go_sem] theorem szOf_21 : szOf Try.prog 21 = 1 := by kernel_rfl
@[go_sem] theorem aggT_21 : aggT Try.prog 21 = false := by kernel_rfl
@[go_sem] theorem undS_21 : (Try.prog.underlying 21).isSome = true := by kernel_rfl
@[go_sem] theorem infS_21 : (Try.prog.info? 21).isSome = true := by kernel_rfl
@[go_sem] theorem ifaceT_21 : ifaceT Try.prog 21 = false := by kernel_rfl
@[go_sem] theorem ptrT_21 : ptrT Try.prog 21 = false := by kernel_rfl
@[go_sem] theorem zeroT_21 : zeroT Try.prog 21 = true := by kernel_rfl
@[go_sem] theorem zeroOk_21 : zeroOk Try.prog 21 = true := by kernel_rfl
@[go_sem] theorem bytesOf_21 : bytesOf Try.prog 21 = 4 := by kernel_rfl
@[go_sem] theorem zeroD_21 : zeroD Try.prog 21 = [.v (.int .i32 0)] := by kernel_rfl
@[go_sem] theorem okT_22 : okT Try.prog 22 = true := by kernel_rfl
@[go_sem] theorem szOf_22 : szOf Try.prog 22 = 1 := by kernel_rfl
@[go_sem] theorem aggT_22 : aggT Try.prog 22 = false := by kernel_rfl
@[go_sem] theorem undS_22 : (Try.prog.underlying 22).isSome = true := by kernel_rfl
@[go_sem] theorem infS_22 : (Try.prog.info? 22).isSome = true := by kernel_rfl
@[go_sem] theorem ifaceT_22 : ifaceT Try.prog 22 = false := by kernel_rfl
@[go_sem] theorem ptrT_22 : ptrT Try.prog 22 = false := by kernel_rfl
@[go_sem] theorem zeroT_22 : zeroT Try.prog 22 = true := by kernel_rfl
@[go_sem] theorem zeroOk_22 : zeroOk Try.prog 22 = true := by kernel_rfl
@[go_sem] theorem bytesOf_22 : bytesOf Try.prog 22 = 24 := by kernel_rfl
@[go_sem] theorem zeroD_22 : zeroD Try.prog 22 = [.sl .full []] := by kernel_rfl
@[go_sem] theorem elT_22 : elT Try.prog 22 = some 9 := by kernel_rfl
@[go_sem] theorem bul_22 (own : Own) (es : List D) (ty : TypeId) (cs : Array Bool) : dbuiltin Try.prog .len #[22] ty cs [.sl own es] = some (True, .v (.int .i64 es.length)) := bu_len own es _ ty cs elT_22
@[go_sem] theorem bwl_22 (k off n c : Nat) (ty : TypeId) (cs : Array Bool) : dbuiltin Try.prog .len #[22] ty cs [.win k off n c] = some (True, .v (.int .i64 n)) := bu_wlen k off n c _ ty cs elT_22
@[go_sem] theorem bwc_22 (k off n c : Nat) (ty : TypeId) (cs : Array Bool) : dbuiltin Try.prog .cap #[22] ty cs [.win k off n c] = some (True, .v (.int .i64 c)) := bu_wcap k off n c _ ty cs elT_22
@[go_sem] theorem okT_23 : okT Try.prog 23 = true := by kernel_rfl
@[go_sem] theorem szOf_23 : szOf Try.prog 23 = 1 := by kernel_rfl
@[go_sem] theorem aggT_23 : aggT Try.prog 23 = false := by kernel_rfl
@[go_sem] theorem undS_23 : (Try.prog.underlying 23).isSome = true := by kernel_rfl
@[go_sem] theorem infS_23 : (Try.prog.info? 23).isSome = true := by kernel_rfl
@[go_sem] theorem ifaceT_23 : ifaceT Try.prog 23 = false := by kernel_rfl
@[go_sem] theorem ptrT_23 : ptrT Try.prog 23 = false := by kernel_rfl
@[go_sem] theorem zeroT_23 : zeroT Try.prog 23 = true := by kernel_rfl
@[go_sem] theorem zeroOk_23 : zeroOk Try.prog 23 = true := by kernel_rfl
@[go_sem] theorem bytesOf_23 : bytesOf Try.prog 23 = 24 := by kernel_rfl
@[go_sem] theorem zeroD_23 : zeroD Try.prog 23 = [.sl .full []] := by kernel_rfl
@[go_sem] theorem elT_23 : elT Try.prog 23 = some 28 := by kernel_rfl
@[go_sem] theorem bul_23 (own : Own) (es : List D) (ty : TypeId) (cs : Array Bool) : dbuiltin Try.prog .len #[23] ty cs [.sl own es] = some (True, .v (.int .i64 es.length)) := bu_len own es _ ty cs elT_23
@[go_sem] theorem bwl_23 (k off n c : Nat) (ty : TypeId) (cs : Array Bool) : dbuiltin Try.prog .len #[23] ty cs [.win k off n c] = some (True, .v (.int .i64 n)) := bu_wlen k off n c _ ty cs elT_23
@[go_sem] theorem bwc_23 (k off n c : Nat) (ty : TypeId) (cs : Array Bool) : dbuiltin Try.prog .cap #[23] ty cs [.win k off n c] = some (True, .v (.int .i64 c)) := bu_wcap k off n c _ ty cs elT_23
@[go_sem] theorem okT_24 : okT Try.prog 24 = true := by kernel_rfl
@[go_sem] theorem szOf_24 : szOf Try.prog 24 = 1 := by kernel_rfl
@[go_sem] theorem aggT_24 : aggT Try.prog 24 = false := by kernel_rfl
@[go_sem] theorem undS_24 : (Try.prog.underlying 24).isSome = true := by kernel_rfl
@[go_sem] theorem infS_24 : (Try.prog.info? 24).isSome = true := by kernel_rfl
@[go_sem] theorem ifaceT_24 : ifaceT Try.prog 24 = false := by kernel_rfl
@[go_sem] theorem ptrT_24 : ptrT Try.prog 24 = false := by kernel_rfl
@[go_sem] theorem zeroT_24 : zeroT Try.prog 24 = true := by kernel_rfl
@[go_sem] theorem zeroOk_24 : zeroOk Try.prog 24 = true := by kernel_rfl
@[go_sem] theorem bytesOf_24 : bytesOf Try.prog 24 = 8 := by kernel_rfl
@[go_sem] theorem zeroD_24 : zeroD Try.prog 24 = [.v (.int .u64 0)] := by kernel_rfl
@[go_sem] theorem okT_25 : okT Try.prog 25 = true := by kernel_rfl
@[go_sem] theorem szOf_25 : szOf Try.prog 25 = 1 := by kernel_rfl
@[go_sem] theorem aggT_25 : aggT Try.prog 25 = false := by kernel_rfl
@[go_sem] theorem undS_25 : (Try.prog.underlying 25).isSome = true := by kernel_rfl
@[go_sem] theorem infS_25 : (Try.prog.info? 25).isSome = true := by kernel_rfl
@[go_sem] theorem ifaceT_25 : ifaceT Try.prog 25 = false := by kernel_rfl
@[go_sem] theorem ptrT_25 : ptrT Try.prog 25 = false := by kernel_rfl
@[go_sem] theorem zeroT_25 : zeroT Try.prog 25 = true := by kernel_rfl
@[go_sem] theorem zeroOk_25 : zeroOk Try.prog 25 = true := by kernel_rfl
@[go_sem] theorem bytesOf_25 : bytesOf Try.prog 25 = 8 := by kernel_rfl
@[go_sem] theorem zeroD_25 : zeroD Try.prog 25 = [.v .nilFunc] := by kernel_rfl
@[go_sem] theorem okT_26 : okT Try.prog 26 = true := by kernel_rfl
@[go_sem] theorem szOf_26 : szOf Try.prog 26 = 1 := by kernel_rfl
@[go_sem] theorem aggT_26 : aggT Try.prog 26 = false := by kernel_rfl
@[go_sem] theorem undS_26 : (Try.prog.underlying 26).isSome = true := by kernel_rfl
@[go_sem] theorem infS_26 : (Try.prog.info? 26).isSome = true := by kernel_rfl
@[go_sem] theorem ifaceT_26 : ifaceT Try.prog 26 = false := by kernel_rfl
@[go_sem] theorem ptrT_26 : ptrT Try.prog 26 = false := by kernel_rfl
@[go_sem] theorem zeroT_26 : zeroT Try.prog 26 = true := by kernel_rfl
@[go_sem] theorem zeroOk_26 : zeroOk Try.prog 26 = true := by kernel_rfl
@[go_sem] theorem bytesOf_26 : bytesOf Try.prog 26 = 24 := by kernel_rfl
@[go_sem] theorem zeroD_26 : zeroD Try.prog 26 = [.sl .full []] := by kernel_rfl
@[go_sem] theorem elT_26 : elT Try.prog 26 = some 24 := by kernel_rfl
@[go_sem] theorem bul_26 (own : Own) (es : List D) (ty : TypeId) (cs : Array Bool) : dbuiltin Try.prog .len #[26] ty cs [.sl own es] = some (True, .v (.int .i64 es.length)) := bu_len own es _ ty cs elT_26
@[go_sem] theorem bwl_26 (k off n c : Nat) (ty : TypeId) (cs : Array Bool) : dbuiltin Try.prog .len #[26] ty cs [.win k off n c] = some (True, .v (.int .i64 n)) := bu_wlen k off n c _ ty cs elT_26
@[go_sem] theorem bwc_26 (k off n c : Nat) (ty : TypeId) (cs : Array Bool) : dbuiltin Try.prog .cap #[26] ty cs [.win k off n c] = some (True, .v (.int .i64 c)) := bu_wcap k off n c _ ty cs elT_26
@[go_sem] theorem okT_28 : okT Try.prog 28 = true := by kernel_rfl
@[go_sem] theorem szOf_28 : szOf Try.prog 28 = 6 := by kernel_rfl
@[go_sem] theorem aggT_28 : aggT Try.prog 28 = true := by kernel_rfl
@[go_sem] theorem undS_28 : (Try.prog.underlying 28).isSome = true := by kernel_rfl
@[go_sem] theorem infS_28 : (Try.prog.info? 28).isSome = true := by kernel_rfl
@[go_sem] theorem ifaceT_28 : ifaceT Try.prog 28 = false := by kernel_rfl
@[go_sem] theorem ptrT_28 : ptrT Try.prog 28 = false := by kernel_rfl
@[go_sem] theorem zeroT_28 : zeroT Try.prog 28 = true := by kernel_rfl
@[go_sem] theorem zeroOk_28 : zeroOk Try.prog 28 = true := by kernel_rfl
@[go_sem] theorem bytesOf_28 : bytesOf Try.prog 28 = 104 := by kernel_rfl
@[go_sem] theorem zeroD_28 : zeroD Try.prog 28 = [.v (.int .i64 0), .v (.int .i64 0), .v (.string ⟨#[]⟩), .sl .full [], .sl .full [], .sl .full []] := by kernel_rfl
@[go_sem] theorem fld_28_0 : fld Try.prog 28 0 = some (0, 3) := by kernel_rfl
@[go_sem] theorem fld_28_1 : fld Try.prog 28 1 = some (1, 3) := by kernel_rfl
@[go_sem] theorem fld_28_2 : fld Try.prog 28 2 = some (2, 9) := by kernel_rfl
@[go_sem] theorem fld_28_3 : fld Try.prog 28 3 = some (3, 22) := by kernel_rfl
@[go_sem] theorem fld_28_4 : fld Try.prog 28 4 = some (4, 26) := by kernel_rfl
@[go_sem] theorem fld_28_5 : fld Try.prog 28 5 = some (5, 23) := by kernel_rfl
noncomputable def pl28 : Nat → Option (Nat × Nat) := (placeT Try.prog 28).getD fun _ => none
@[go_sem] theorem placeT_28 : placeT Try.prog 28 = some pl28 := by kernel_rfl
@[go_sem] theorem pl_28_0 : pl28 0 = some (0, 1) := by kernel_rfl
@[go_sem] theorem pl_28_1 : pl28 1 = some (1, 1) := by kernel_rfl
@[go_sem] theorem pl_28_2 : pl28 2 = some (2, 1) := by kernel_rfl
@[go_sem] theorem pl_28_3 : pl28 3 = some (3, 1) := by kernel_rfl
@[go_sem] theorem pl_28_4 : pl28 4 = some (4, 1) := by kernel_rfl
@[go_sem] theorem pl_28_5 : pl28 5 = some (5, 1) := by kernel_rfl
@[go_sem] theorem okT_29 : okT Try.prog 29 = true := by kernel_rfl
@[go_sem] theorem szOf_29 : szOf Try.prog 29 = 1 := by kernel_rfl
@[go_sem] theorem aggT_29 : aggT Try.prog 29 = false := by kernel_rfl
@[go_sem] theorem undS_29 : (Try.prog.underlying 29).isSome = true := by kernel_rfl
@[go_sem] theorem infS_29 : (Try.prog.info? 29).isSome = true := by kernel_rfl
@[go_sem] theorem ifaceT_29 : ifaceT Try.prog 29 = false := by kernel_rfl
@[go_sem] theorem ptrT_29 : ptrT Try.prog 29 = false := by kernel_rfl
@[go_sem] theorem zeroT_29 : zeroT Try.prog 29 = true := by kernel_rfl
@[go_sem] theorem zeroOk_29 : zeroOk Try.prog 29 = true := by kernel_rfl
@[go_sem] theorem bytesOf_29 : bytesOf Try.prog 29 = 8 := by kernel_rfl
@[go_sem] theorem zeroD_29 : zeroD Try.prog 29 = [.v .nilFunc] := by kernel_rfl
@[go_sem] theorem okT_30 : okT Try.prog 30 = true := by kernel_rfl
@[go_sem] theorem szOf_30 : szOf Try.prog 30 = 1 := by kernel_rfl
@[go_sem] theorem aggT_30 : aggT Try.prog 30 = false := by kernel_rfl
@[go_sem] theorem undS_30 : (Try.prog.underlying 30).isSome = true := by kernel_rfl
@[go_sem] theorem infS_30 : (Try.prog.info? 30).isSome = true := by kernel_rfl
@[go_sem] theorem ifaceT_30 : ifaceT Try.prog 30 = false := by kernel_rfl
@[go_sem] theorem ptrT_30 : ptrT Try.prog 30 = false := by kernel_rfl
@[go_sem] theorem zeroT_30 : zeroT Try.prog 30 = true := by kernel_rfl
@[go_sem] theorem zeroOk_30 : zeroOk Try.prog 30 = true := by kernel_rfl
@[go_sem] theorem bytesOf_30 : bytesOf Try.prog 30 = 8 := by kernel_rfl
@[go_sem] theorem zeroD_30 : zeroD Try.prog 30 = [.v .nilFunc] := by kernel_rfl
@[go_sem] theorem okT_32 : okT Try.prog 32 = true := by kernel_rfl
@[go_sem] theorem szOf_32 : szOf Try.prog 32 = 1 := by kernel_rfl
@[go_sem] theorem aggT_32 : aggT Try.prog 32 = false := by kernel_rfl
@[go_sem] theorem undS_32 : (Try.prog.underlying 32).isSome = true := by kernel_rfl
@[go_sem] theorem infS_32 : (Try.prog.info? 32).isSome = true := by kernel_rfl
@[go_sem] theorem ifaceT_32 : ifaceT Try.prog 32 = false := by kernel_rfl
@[go_sem] theorem ptrT_32 : ptrT Try.prog 32 = false := by kernel_rfl
@[go_sem] theorem zeroT_32 : zeroT Try.prog 32 = true := by kernel_rfl
@[go_sem] theorem zeroOk_32 : zeroOk Try.prog 32 = true := by kernel_rfl
@[go_sem] theorem bytesOf_32 : bytesOf Try.prog 32 = 8 := by kernel_rfl
@[go_sem] theorem zeroD_32 : zeroD Try.prog 32 = [.v .nilFunc] := by kernel_rfl
@[go_sem] theorem okT_33 : okT Try.prog 33 = true := by kernel_rfl
@[go_sem] theorem szOf_33 : szOf Try.prog 33 = 1 := by kernel_rfl
@[go_sem] theorem aggT_33 : aggT Try.prog 33 = false := by kernel_rfl
@[go_sem] theorem undS_33 : (Try.prog.underlying 33).isSome = true := by kernel_rfl
@[go_sem] theorem infS_33 : (Try.prog.info? 33).isSome = true := by kernel_rfl
@[go_sem] theorem ifaceT_33 : ifaceT Try.prog 33 = false := by kernel_rfl
@[go_sem] theorem ptrT_33 : ptrT Try.prog 33 = false := by kernel_rfl
@[go_sem] theorem zeroT_33 : zeroT Try.prog 33 = true := by kernel_rfl
@[go_sem] theorem zeroOk_33 : zeroOk Try.prog 33 = true := by kernel_rfl
@[go_sem] theorem bytesOf_33 : bytesOf Try.prog 33 = 8 := by kernel_rfl
@[go_sem] theorem zeroD_33 : zeroD Try.prog 33 = [.v .nilFunc] := by kernel_rfl
@[go_sem] theorem okT_34 : okT Try.prog 34 = true := by kernel_rfl
@[go_sem] theorem szOf_34 : szOf Try.prog 34 = 1 := by kernel_rfl
@[go_sem] theorem aggT_34 : aggT Try.prog 34 = false := by kernel_rfl
@[go_sem] theorem undS_34 : (Try.prog.underlying 34).isSome = true := by kernel_rfl
@[go_sem] theorem infS_34 : (Try.prog.info? 34).isSome = true := by kernel_rfl
@[go_sem] theorem ifaceT_34 : ifaceT Try.prog 34 = false := by kernel_rfl
@[go_sem] theorem ptrT_34 : ptrT Try.prog 34 = false := by kernel_rfl
@[go_sem] theorem zeroT_34 : zeroT Try.prog 34 = true := by kernel_rfl
@[go_sem] theorem zeroOk_34 : zeroOk Try.prog 34 = true := by kernel_rfl
@[go_sem] theorem bytesOf_34 : bytesOf Try.prog 34 = 8 := by kernel_rfl
@[go_sem] theorem zeroD_34 : zeroD Try.prog 34 = [.v .nilFunc] := by kernel_rfl
@[go_sem] theorem okT_35 : okT Try.prog 35 = true := by kernel_rfl
@[go_sem] theorem szOf_35 : szOf Try.prog 35 = 1 := by kernel_rfl
@[go_sem] theorem aggT_35 : aggT Try.prog 35 = false := by kernel_rfl
@[go_sem] theorem undS_35 : (Try.prog.underlying 35).isSome = true := by kernel_rfl
@[go_sem] theorem infS_35 : (Try.prog.info? 35).isSome = true := by kernel_rfl
@[go_sem] theorem ifaceT_35 : ifaceT Try.prog 35 = false := by kernel_rfl
@[go_sem] theorem ptrT_35 : ptrT Try.prog 35 = false := by kernel_rfl
@[go_sem] theorem zeroT_35 : zeroT Try.prog 35 = true := by kernel_rfl
@[go_sem] theorem zeroOk_35 : zeroOk Try.prog 35 = true := by kernel_rfl
@[go_sem] theorem bytesOf_35 : bytesOf Try.prog 35 = 8 := by kernel_rfl
@[go_sem] theorem zeroD_35 : zeroD Try.prog 35 = [.v .nilFunc] := by kernel_rfl
@[go_sem] theorem okT_37 : okT Try.prog 37 = true := by kernel_rfl
@[go_sem] theorem szOf_37 : szOf Try.prog 37 = 1 := by kernel_rfl
@[go_sem] theorem aggT_37 : aggT Try.prog 37 = false := by kernel_rfl
@[go_sem] theorem undS_37 : (Try.prog.underlying 37).isSome = true := by kernel_rfl
@[go_sem] theorem infS_37 : (Try.prog.info? 37).isSome = true := by kernel_rfl
@[go_sem] theorem ifaceT_37 : ifaceT Try.prog 37 = false := by kernel_rfl
@[go_sem] theorem ptrT_37 : ptrT Try.prog 37 = false := by kernel_rfl
@[go_sem] theorem zeroT_37 : zeroT Try.prog 37 = true := by kernel_rfl
@[go_sem] theorem zeroOk_37 : zeroOk Try.prog 37 = true := by kernel_rfl
@[go_sem] theorem bytesOf_37 : bytesOf Try.prog 37 = 8 := by kernel_rfl
@[go_sem] theorem zeroD_37 : zeroD Try.prog 37 = [.v .nilFunc] := by kernel_rfl
@[go_sem] theorem okT_38 : okT Try.prog 38 = true := by kernel_rfl
@[go_sem] theorem szOf_38 : szOf Try.prog 38 = 1 := by kernel_rfl
@[go_sem] theorem aggT_38 : aggT Try.prog 38 = false := by kernel_rfl
@[go_sem] theorem undS_38 : (Try.prog.underlying 38).isSome = true := by kernel_rfl
@[go_sem] theorem infS_38 : (Try.prog.info? 38).isSome = true := by kernel_rfl
@[go_sem] theorem ifaceT_38 : ifaceT Try.prog 38 = false := by kernel_rfl
@[go_sem] theorem ptrT_38 : ptrT Try.prog 38 = false := by kernel_rfl
@[go_sem] theorem zeroT_38 : zeroT Try.prog 38 = true := by kernel_rfl
@[go_sem] theorem zeroOk_38 : zeroOk Try.prog 38 = true := by kernel_rfl
@[go_sem] theorem bytesOf_38 : bytesOf Try.prog 38 = 8 := by kernel_rfl
@[go_sem] theorem zeroD_38 : zeroD Try.prog 38 = [.v .nilFunc] := by kernel_rfl
@[go_sem] theorem okT_39 : okT Try.prog 39 = true := by kernel_rfl
@[go_sem] theorem szOf_39 : szOf Try.prog 39 = 1 := by kernel_rfl
@[go_sem] theorem aggT_39 : aggT Try.prog 39 = false := by kernel_rfl
@[go_sem] theorem undS_39 : (Try.prog.underlying 39).isSome = true := by kernel_rfl
@[go_sem] theorem infS_39 : (Try.prog.info? 39).isSome = true := by kernel_rfl
@[go_sem] theorem ifaceT_39 : ifaceT Try.prog 39 = false := by kernel_rfl
@[go_sem] theorem ptrT_39 : ptrT Try.prog 39 = false := by kernel_rfl
@[go_sem] theorem zeroT_39 : zeroT Try.prog 39 = true := by kernel_rfl
@[go_sem] theorem zeroOk_39 : zeroOk Try.prog 39 = true := by kernel_rfl
@[go_sem] theorem bytesOf_39 : bytesOf Try.prog 39 = 24 := by kernel_rfl
@[go_sem] theorem zeroD_39 : zeroD Try.prog 39 = [.sl .full []] := by kernel_rfl
@[go_sem] theorem elT_39 : elT Try.prog 39 = some 44 := by kernel_rfl
@[go_sem] theorem bul_39 (own : Own) (es : List D) (ty : TypeId) (cs : Array Bool) : dbuiltin Try.prog .len #[39] ty cs [.sl own es] = some (True, .v (.int .i64 es.length)) := bu_len own es _ ty cs elT_39
@[go_sem] theorem bwl_39 (k off n c : Nat) (ty : TypeId) (cs : Array Bool) : dbuiltin Try.prog .len #[39] ty cs [.win k off n c] = some (True, .v (.int .i64 n)) := bu_wlen k off n c _ ty cs elT_39
@[go_sem] theorem bwc_39 (k off n c : Nat) (ty : TypeId) (cs : Array Bool) : dbuiltin Try.prog .cap #[39] ty cs [.win k off n c] = some (True, .v (.int .i64 c)) := bu_wcap k off n c _ ty cs elT_39
@[go_sem] theorem okT_44 : okT Try.prog 44 = true := by kernel_rfl
@[go_sem] theorem szOf_44 : szOf Try.prog 44 = 1 := by kernel_rfl
@[go_sem] theorem aggT_44 : aggT Try.prog 44 = false := by kernel_rfl
@[go_sem] theorem undS_44 : (Try.prog.underlying 44).isSome = true := by kernel_rfl
@[go_sem] theorem infS_44 : (Try.prog.info? 44).isSome = true := by kernel_rfl
@[go_sem] theorem ifaceT_44 : ifaceT Try.prog 44 = false := by kernel_rfl
@[go_sem] theorem ptrT_44 : ptrT Try.prog 44 = false := by kernel_rfl
@[go_sem] theorem zeroT_44 : zeroT Try.prog 44 = true := by kernel_rfl
@[go_sem] theorem zeroOk_44 : zeroOk Try.prog 44 = true := by kernel_rfl
@[go_sem] theorem bytesOf_44 : bytesOf Try.prog 44 = 24 := by kernel_rfl
@[go_sem] theorem zeroD_44 : zeroD Try.prog 44 = [.sl .full []] := by kernel_rfl
@[go_sem] theorem elT_44 : elT Try.prog 44 = some 78 := by kernel_rfl
@[go_sem] theorem bul_44 (own : Own) (es : List D) (ty : TypeId) (cs : Array Bool) : dbuiltin Try.prog .len #[44] ty cs [.sl own es] = some (True, .v (.int .i64 es.length)) := bu_len own es _ ty cs elT_44
@[go_sem] theorem bwl_44 (k off n c : Nat) (ty : TypeId) (cs : Array Bool) : dbuiltin Try.prog .len #[44] ty cs [.win k off n c] = some (True, .v (.int .i64 n)) := bu_wlen k off n c _ ty cs elT_44
@[go_sem] theorem bwc_44 (k off n c : Nat) (ty : TypeId) (cs : Array Bool) : dbuiltin Try.prog .cap #[44] ty cs [.win k off n c] = some (True, .v (.int .i64 c)) := bu_wcap k off n c _ ty cs elT_44
@[go_sem] theorem okT_45 : okT Try.prog 45 = true := by kernel_rfl
@[go_sem] theorem szOf_45 : szOf Try.prog 45 = 1 := by kernel_rfl
@[go_sem] theorem aggT_45 : aggT Try.prog 45 = false := by kernel_rfl
@[go_sem] theorem undS_45 : (Try.prog.underlying 45).isSome = true := by kernel_rfl
@[go_sem] theorem infS_45 : (Try.prog.info? 45).isSome = true := by kernel_rfl
@[go_sem] theorem ifaceT_45 : ifaceT Try.prog 45 = false := by kernel_rfl
@[go_sem] theorem ptrT_45 : ptrT Try.prog 45 = false := by kernel_rfl
@[go_sem] theorem zeroT_45 : zeroT Try.prog 45 = true := by kernel_rfl
@[go_sem] theorem zeroOk_45 : zeroOk Try.prog 45 = true := by kernel_rfl
@[go_sem] theorem bytesOf_45 : bytesOf Try.prog 45 = 24 := by kernel_rfl
@[go_sem] theorem zeroD_45 : zeroD Try.prog 45 = [.sl .full []] := by kernel_rfl
@[go_sem] theorem elT_45 : elT Try.prog 45 = some 47 := by kernel_rfl
@[go_sem] theorem bul_45 (own : Own) (es : List D) (ty : TypeId) (cs : Array Bool) : dbuiltin Try.prog .len #[45] ty cs [.sl own es] = some (True, .v (.int .i64 es.length)) := bu_len own es _ ty cs elT_45
@[go_sem] theorem bwl_45 (k off n c : Nat) (ty : TypeId) (cs : Array Bool) : dbuiltin Try.prog .len #[45] ty cs [.win k off n c] = some (True, .v (.int .i64 n)) := bu_wlen k off n c _ ty cs elT_45
@[go_sem] theorem bwc_45 (k off n c : Nat) (ty : TypeId) (cs : Array Bool) : dbuiltin Try.prog .cap #[45] ty cs [.win k off n c] = some (True, .v (.int .i64 c)) := bu_wcap k off n c _ ty cs elT_45
@[go_sem] theorem okT_47 : okT Try.prog 47 = true := by kernel_rfl
@[go_sem] theorem szOf_47 : szOf Try.prog 47 = 3 := by kernel_rfl
@[go_sem] theorem aggT_47 : aggT Try.prog 47 = true := by kernel_rfl
@[go_sem] theorem undS_47 : (Try.prog.underlying 47).isSome = true := by kernel_rfl
@[go_sem] theorem infS_47 : (Try.prog.info? 47).isSome = true := by kernel_rfl
@[go_sem] theorem ifaceT_47 : ifaceT Try.prog 47 = false := by kernel_rfl
@[go_sem] theorem ptrT_47 : ptrT Try.prog 47 = false := by kernel_rfl
@[go_sem] theorem zeroT_47 : zeroT Try.prog 47 = true := by kernel_rfl
@[go_sem] theorem zeroOk_47 : zeroOk Try.prog 47 = true := by kernel_rfl
@[go_sem] theorem bytesOf_47 : bytesOf Try.prog 47 = 56 := by kernel_rfl
@[go_sem] theorem zeroD_47 : zeroD Try.prog 47 = [.v (.int .i64 0), .sl .full [], .sl .full []] := by kernel_rfl
@[go_sem] theorem fld_47_0 : fld Try.prog 47 0 = some (0, 3) := by kernel_rfl
@[go_sem] theorem fld_47_1 : fld Try.prog 47 1 = some (1, 22) := by kernel_rfl
@[go_sem] theorem fld_47_2 : fld Try.prog 47 2 = some (2, 45) := by kernel_rfl
noncomputable def pl47 : Nat → Option (Nat × Nat) := (placeT Try.prog 47).getD fun _ => none
@[go_sem] theorem placeT_47 : placeT Try.prog 47 = some pl47 := by kernel_rfl
@[go_sem] theorem pl_47_0 : pl47 0 = some (0, 1) := by kernel_rfl
@[go_sem] theorem pl_47_1 : pl47 1 = some (1, 1) := by kernel_rfl
@[go_sem] theorem pl_47_2 : pl47 2 = some (2, 1) := by kernel_rfl
@[go_sem] theorem okT_48 : okT Try.prog 48 = true := by kernel_rfl
@[go_sem] theorem szOf_48 : szOf Try.prog 48 = 1 := by kernel_rfl
@[go_sem] theorem aggT_48 : aggT Try.prog 48 = false := by kernel_rfl
@[go_sem] theorem undS_48 : (Try.prog.underlying 48).isSome = true := by kernel_rfl
@[go_sem] theorem infS_48 : (Try.prog.info? 48).isSome = true := by kernel_rfl
@[go_sem] theorem ifaceT_48 : ifaceT Try.prog 48 = false := by kernel_rfl
@[go_sem] theorem ptrT_48 : ptrT Try.prog 48 = false := by kernel_rfl
@[go_sem] theorem zeroT_48 : zeroT Try.prog 48 = true := by kernel_rfl
@[go_sem] theorem zeroOk_48 : zeroOk Try.prog 48 = true := by kernel_rfl
@[go_sem] theorem bytesOf_48 : bytesOf Try.prog 48 = 24 := by kernel_rfl
@[go_sem] theorem zeroD_48 : zeroD Try.prog 48 = [.sl .full []] := by kernel_rfl
@[go_sem] theorem elT_48 : elT Try.prog 48 = some 53 := by kernel_rfl
@[go_sem] theorem bul_48 (own : Own) (es : List D) (ty : TypeId) (cs : Array Bool) : dbuiltin Try.prog .len #[48] ty cs [.sl own es] = some (True, .v (.int .i64 es.length)) := bu_len own es _ ty cs elT_48
@[go_sem] theorem bwl_48 (k off n c : Nat) (ty : TypeId) (cs : Array Bool) : dbuiltin Try.prog .len #[48] ty cs [.win k off n c] = some (True, .v (.int .i64 n)) := bu_wlen k off n c _ ty cs elT_48
@[go_sem] theorem bwc_48 (k off n c : Nat) (ty : TypeId) (cs : Array Bool) : dbuiltin Try.prog .cap #[48] ty cs [.win k off n c] = some (True, .v (.int .i64 c)) := bu_wcap k off n c _ ty cs elT_48
@[go_sem] theorem okT_49 : okT Try.prog 49 = true := by kernel_rfl
@[go_sem] theorem szOf_49 : szOf Try.prog 49 = 1 := by kernel_rfl
@[go_sem] theorem aggT_49 : aggT Try.prog 49 = false := by kernel_rfl
@[go_sem] theorem undS_49 : (Try.prog.underlying 49).isSome = true := by kernel_rfl
@[go_sem] theorem infS_49 : (Try.prog.info? 49).isSome = true := by kernel_rfl
@[go_sem] theorem ifaceT_49 : ifaceT Try.prog 49 = false := by kernel_rfl
@[go_sem] theorem ptrT_49 : ptrT Try.prog 49 = false := by kernel_rfl
@[go_sem] theorem zeroT_49 : zeroT Try.prog 49 = true := by kernel_rfl
@[go_sem] theorem zeroOk_49 : zeroOk Try.prog 49 = true := by kernel_rfl
@[go_sem] theorem bytesOf_49 : bytesOf Try.prog 49 = 8 := by kernel_rfl
@[go_sem] theorem zeroD_49 : zeroD Try.prog 49 = [.v .nilFunc] := by kernel_rfl
@[go_sem] theorem okT_53 : okT Try.prog 53 = true := by kernel_rfl
@[go_sem] theorem szOf_53 : szOf Try.prog 53 = 10 := by kernel_rfl
@[go_sem] theorem aggT_53 : aggT Try.prog 53 = true := by kernel_rfl
@[go_sem] theorem undS_53 : (Try.prog.underlying 53).isSome = true := by kernel_rfl
@[go_sem] theorem infS_53 : (Try.prog.info? 53).isSome = true := by kernel_rfl
@[go_sem] theorem ifaceT_53 : ifaceT Try.prog 53 = false := by kernel_rfl
@[go_sem] theorem ptrT_53 : ptrT Try.prog 53 = false := by kernel_rfl
@[go_sem] theorem zeroT_53 : zeroT Try.prog 53 = true := by kernel_rfl
@[go_sem] theorem zeroOk_53 : zeroOk Try.prog 53 = true := by kernel_rfl
@[go_sem] theorem bytesOf_53 : bytesOf Try.prog 53 = 152 := by kernel_rfl
@[go_sem] theorem zeroD_53 : zeroD Try.prog 53 = [.v (.int .i64 0), .sl .full [], .v (.int .u64 0), .v (.int .u64 0), .v (.int .i64 0), .v (.int .i64 0), .v (.string ⟨#[]⟩), .sl .full [], .sl .full [], .sl .full []] := by kernel_rfl
@[go_sem] theorem fld_53_0 : fld Try.prog 53 0 = some (0, 3) := by kernel_rfl
@[go_sem] theorem fld_53_1 : fld Try.prog 53 1 = some (1, 44) := by kernel_rfl
@[go_sem] theorem fld_53_2 : fld Try.prog 53 2 = some (2, 24) := by kernel_rfl
@[go_sem] theorem fld_53_3 : fld Try.prog 53 3 = some (3, 24) := by kernel_rfl
@[go_sem] theorem fld_53_4 : fld Try.prog 53 4 = some (4, 28) := by kernel_rfl
noncomputable def pl53 : Nat → Option (Nat × Nat) := (placeT Try.prog 53).getD fun _ => none
@[go_sem] theorem placeT_53 : placeT Try.prog 53 = some pl53 := by kernel_rfl
@[go_sem] theorem pl_53_0 : pl53 0 = some (0, 1) := by kernel_rfl
@[go_sem] theorem pl_53_1 : pl53 1 = some (1, 1) := by kernel_rfl
@[go_sem] theorem pl_53_2 : pl53 2 = some (2, 1) := by kernel_rfl
@[go_sem] theorem pl_53_3 : pl53 3 = some (3, 1) := by kernel_rfl
@[go_sem] theorem pl_53_4 : pl53 4 = some (4, 6) := by kernel_rfl
@[go_sem] theorem okT_57 : okT Try.prog 57 = true := by kernel_rfl
@[go_sem] theorem szOf_57 : szOf Try.prog 57 = 1 := by kernel_rfl
@[go_sem] theorem aggT_57 : aggT Try.prog 57 = false := by kernel_rfl
@[go_sem] theorem undS_57 : (Try.prog.underlying 57).isSome = true := by kernel_rfl
@[go_sem] theorem infS_57 : (Try.prog.info? 57).isSome = true := by kernel_rfl
@[go_sem] theorem ifaceT_57 : ifaceT Try.prog 57 = true := by kernel_rfl
@[go_sem] theorem ptrT_57 : ptrT Try.prog 57 = false := by kernel_rfl
@[go_sem] theorem zeroT_57 : zeroT Try.prog 57 = true := by kernel_rfl
@[go_sem] theorem zeroOk_57 : zeroOk Try.prog 57 = true := by kernel_rfl
@[go_sem] theorem bytesOf_57 : bytesOf Try.prog 57 = 16 := by kernel_rfl
@[go_sem] theorem zeroD_57 : zeroD Try.prog 57 = [.v .nilIface] := by kernel_rfl
@[go_sem] theorem okT_61 : okT Try.prog 61 = true := by kernel_rfl
@[go_sem] theorem szOf_61 : szOf Try.prog 61 = 1 := by kernel_rfl
@[go_sem] theorem aggT_61 : aggT Try.prog 61 = false := by kernel_rfl
@[go_sem] theorem undS_61 : (Try.prog.underlying 61).isSome = true := by kernel_rfl
@[go_sem] theorem infS_61 : (Try.prog.info? 61).isSome = true := by kernel_rfl
@[go_sem] theorem ifaceT_61 : ifaceT Try.prog 61 = false := by kernel_rfl
@[go_sem] theorem ptrT_61 : ptrT Try.prog 61 = false := by kernel_rfl
@[go_sem] theorem zeroT_61 : zeroT Try.prog 61 = true := by kernel_rfl
@[go_sem] theorem zeroOk_61 : zeroOk Try.prog 61 = true := by kernel_rfl
@[go_sem] theorem bytesOf_61 : bytesOf Try.prog 61 = 24 := by kernel_rfl
@[go_sem] theorem zeroD_61 : zeroD Try.prog 61 = [.sl .full []] := by kernel_rfl
@[go_sem] theorem elT_61 : elT Try.prog 61 = some 5 := by kernel_rfl
@[go_sem] theorem bul_61 (own : Own) (es : List D) (ty : TypeId) (cs : Array Bool) : dbuiltin Try.prog .len #[61] ty cs [.sl own es] = some (True, .v (.int .i64 es.length)) := bu_len own es _ ty cs elT_61
@[go_sem] theorem bwl_61 (k off n c : Nat) (ty : TypeId) (cs : Array Bool) : dbuiltin Try.prog .len #[61] ty cs [.win k off n c] = some (True, .v (.int .i64 n)) := bu_wlen k off n c _ ty cs elT_61
@[go_sem] theorem bwc_61 (k off n c : Nat) (ty : TypeId) (cs : Array Bool) : dbuiltin Try.prog .cap #[61] ty cs [.win k off n c] = some (True, .v (.int .i64 c)) := bu_wcap k off n c _ ty cs elT_61
@[go_sem] theorem okT_70 : okT Try.prog 70 = true := by kernel_rfl
@[go_sem] theorem szOf_70 : szOf Try.prog 70 = 1 := by kernel_rfl
@[go_sem] theorem aggT_70 : aggT Try.prog 70 = false := by kernel_rfl
@[go_sem] theorem undS_70 : (Try.prog.underlying 70).isSome = true := by kernel_rfl
@[go_sem] theorem infS_70 : (Try.prog.info? 70).isSome = true := by kernel_rfl
@[go_sem] theorem ifaceT_70 : ifaceT Try.prog 70 = false := by kernel_rfl
@[go_sem] theorem ptrT_70 : ptrT Try.prog 70 = false := by kernel_rfl
@[go_sem] theorem zeroT_70 : zeroT Try.prog 70 = true := by kernel_rfl
@[go_sem] theorem zeroOk_70 : zeroOk Try.prog 70 = true := by kernel_rfl
@[go_sem] theorem bytesOf_70 : bytesOf Try.prog 70 = 24 := by kernel_rfl
@[go_sem] theorem zeroD_70 : zeroD Try.prog 70 = [.sl .full []] := by kernel_rfl
@[go_sem] theorem elT_70 : elT Try.prog 70 = some 3 := by kernel_rfl
@[go_sem] theorem bul_70 (own : Own) (es : List D) (ty : TypeId) (cs : Array Bool) : dbuiltin Try.prog .len #[70] ty cs [.sl own es] = some (True, .v (.int .i64 es.length)) := bu_len own es _ ty cs elT_70
@[go_sem] theorem bwl_70 (k off n c : Nat) (ty : TypeId) (cs : Array Bool) : dbuiltin Try.prog .len #[70] ty cs [.win k off n c] = some (True, .v (.int .i64 n)) := bu_wlen k off n c _ ty cs elT_70
@[go_sem] theorem bwc_70 (k off n c : Nat) (ty : TypeId) (cs : Array Bool) : dbuiltin Try.prog .cap #[70] ty cs [.win k off n c] = some (True, .v (.int .i64 c)) := bu_wcap k off n c _ ty cs elT_70
@[go_sem] theorem okT_71 : okT Try.prog 71 = true := by kernel_rfl
@[go_sem] theorem szOf_71 : szOf Try.prog 71 = 1 := by kernel_rfl
@[go_sem] theorem aggT_71 : aggT Try.prog 71 = false := by kernel_rfl
@[go_sem] theorem undS_71 : (Try.prog.underlying 71).isSome = true := by kernel_rfl
@[go_sem] theorem infS_71 : (Try.prog.info? 71).isSome = true := by kernel_rfl
@[go_sem] theorem ifaceT_71 : ifaceT Try.prog 71 = false := by kernel_rfl
@[go_sem] theorem ptrT_71 : ptrT Try.prog 71 = false := by kernel_rfl
@[go_sem] theorem zeroT_71 : zeroT Try.prog 71 = true := by kernel_rfl
@[go_sem] theorem zeroOk_71 : zeroOk Try.prog 71 = true := by kernel_rfl
@[go_sem] theorem bytesOf_71 : bytesOf Try.prog 71 = 24 := by kernel_rfl
@[go_sem] theorem zeroD_71 : zeroD Try.prog 71 = [.sl .full []] := by kernel_rfl
@[go_sem] theorem elT_71 : elT Try.prog 71 = some 70 := by kernel_rfl
@[go_sem] theorem bul_71 (own : Own) (es : List D) (ty : TypeId) (cs : Array Bool) : dbuiltin Try.prog .len #[71] ty cs [.sl own es] = some (True, .v (.int .i64 es.length)) := bu_len own es _ ty cs elT_71
@[go_sem] theorem bwl_71 (k off n c : Nat) (ty : TypeId) (cs : Array Bool) : dbuiltin Try.prog .len #[71] ty cs [.win k off n c] = some (True, .v (.int .i64 n)) := bu_wlen k off n c _ ty cs elT_71
@[go_sem] theorem bwc_71 (k off n c : Nat) (ty : TypeId) (cs : Array Bool) : dbuiltin Try.prog .cap #[71] ty cs [.win k off n c] = some (True, .v (.int .i64 c)) := bu_wcap k off n c _ ty cs elT_71
@[go_sem] theorem okT_78 : okT Try.prog 78 = true := by kernel_rfl
@[go_sem] theorem szOf_78 : szOf Try.prog 78 = 2 := by kernel_rfl
@[go_sem] theorem aggT_78 : aggT Try.prog 78 = true := by kernel_rfl
@[go_sem] theorem undS_78 : (Try.prog.underlying 78).isSome = true := by kernel_rfl
@[go_sem] theorem infS_78 : (Try.prog.info? 78).isSome = true := by kernel_rfl
@[go_sem] theorem ifaceT_78 : ifaceT Try.prog 78 = false := by kernel_rfl
@[go_sem] theorem ptrT_78 : ptrT Try.prog 78 = false := by kernel_rfl
@[go_sem] theorem zeroT_78 : zeroT Try.prog 78 = true := by kernel_rfl
@[go_sem] theorem zeroOk_78 : zeroOk Try.prog 78 = true := by kernel_rfl
@[go_sem] theorem bytesOf_78 : bytesOf Try.prog 78 = 24 := by kernel_rfl
@[go_sem] theorem zeroD_78 : zeroD Try.prog 78 = [.v (.string ⟨#[]⟩), .v (.int .u64 0)] := by kernel_rfl
@[go_sem] theorem fld_78_0 : fld Try.prog 78 0 = some (0, 9) := by kernel_rfl
@[go_sem] theorem fld_78_1 : fld Try.prog 78 1 = some (1, 24) := by kernel_rfl
noncomputable def pl78 : Nat → Option (Nat × Nat) := (placeT Try.prog 78).getD fun _ => none
@[go_sem] theorem placeT_78 : placeT Try.prog 78 = some pl78 := by kernel_rfl
@[go_sem] theorem pl_78_0 : pl78 0 = some (0, 1) := by kernel_rfl
@[go_sem] theorem pl_78_1 : pl78 1 = some (1, 1) := by kernel_rfl
@[go_sem] theorem okT_81 : okT Try.prog 81 = true := by kernel_rfl
@[go_sem] theorem szOf_81 : szOf Try.prog 81 = 1 := by kernel_rfl
@[go_sem] theorem aggT_81 : aggT Try.prog 81 = false := by kernel_rfl
@[go_sem] theorem undS_81 : (Try.prog.underlying 81).isSome = true := by kernel_rfl
@[go_sem] theorem infS_81 : (Try.prog.info? 81).isSome = true := by kernel_rfl
@[go_sem] theorem ifaceT_81 : ifaceT Try.prog 81 = false := by kernel_rfl
@[go_sem] theorem ptrT_81 : ptrT Try.prog 81 = false := by kernel_rfl
@[go_sem] theorem zeroT_81 : zeroT Try.prog 81 = true := by kernel_rfl
@[go_sem] theorem zeroOk_81 : zeroOk Try.prog 81 = true := by kernel_rfl
@[go_sem] theorem bytesOf_81 : bytesOf Try.prog 81 = 8 := by kernel_rfl
@[go_sem] theorem zeroD_81 : zeroD Try.prog 81 = [.v .nilFunc] := by kernel_rfl
@[go_sem] theorem okT_84 : okT Try.prog 84 = true := by kernel_rfl
@[go_sem] theorem szOf_84 : szOf Try.prog 84 = 1 := by kernel_rfl
@[go_sem] theorem aggT_84 : aggT Try.prog 84 = false := by kernel_rfl
@[go_sem] theorem undS_84 : (Try.prog.underlying 84).isSome = true := by kernel_rfl
@[go_sem] theorem infS_84 : (Try.prog.info? 84).isSome = true := by kernel_rfl
@[go_sem] theorem ifaceT_84 : ifaceT Try.prog 84 = false := by kernel_rfl
@[go_sem] theorem ptrT_84 : ptrT Try.prog 84 = false := by kernel_rfl
@[go_sem] theorem zeroT_84 : zeroT Try.prog 84 = true := by kernel_rfl
@[go_sem] theorem zeroOk_84 : zeroOk Try.prog 84 = true := by kernel_rfl
@[go_sem] theorem bytesOf_84 : bytesOf Try.prog 84 = 8 := by kernel_rfl
@[go_sem] theorem zeroD_84 : zeroD Try.prog 84 = [.v (.int .i64 0)] := by kernel_rfl
@[go_sem] theorem okT_85 : okT Try.prog 85 = true := by kernel_rfl
@[go_sem] theorem szOf_85 : szOf Try.prog 85 = 1 := by kernel_rfl
@[go_sem] theorem aggT_85 : aggT Try.prog 85 = false := by kernel_rfl
@[go_sem] theorem undS_85 : (Try.prog.underlying 85).isSome = true := by kernel_rfl
@[go_sem] theorem infS_85 : (Try.prog.info? 85).isSome = true := by kernel_rfl
@[go_sem] theorem ifaceT_85 : ifaceT Try.prog 85 = false := by kernel_rfl
@[go_sem] theorem ptrT_85 : ptrT Try.prog 85 = true := by kernel_rfl
@[go_sem] theorem zeroT_85 : zeroT Try.prog 85 = true := by kernel_rfl
@[go_sem] theorem zeroOk_85 : zeroOk Try.prog 85 = true := by kernel_rfl
@[go_sem] theorem bytesOf_85 : bytesOf Try.prog 85 = 8 := by kernel_rfl
@[go_sem] theorem zeroD_85 : zeroD Try.prog 85 = [.v (.pointer none)] := by kernel_rfl
@[go_sem] theorem okT_87 : okT Try.prog 87 = true := by kernel_rfl
@[go_sem] theorem szOf_87 : szOf Try.prog 87 = 1 := by kernel_rfl
@[go_sem] theorem aggT_87 : aggT Try.prog 87 = true := by kernel_rfl
@[go_sem] theorem undS_87 : (Try.prog.underlying 87).isSome = true := by kernel_rfl
@[go_sem] theorem infS_87 : (Try.prog.info? 87).isSome = true := by kernel_rfl
@[go_sem] theorem ifaceT_87 : ifaceT Try.prog 87 = false := by kernel_rfl
@[go_sem] theorem ptrT_87 : ptrT Try.prog 87 = false := by kernel_rfl
@[go_sem] theorem zeroT_87 : zeroT Try.prog 87 = true := by kernel_rfl
@[go_sem] theorem zeroOk_87 : zeroOk Try.prog 87 = true := by kernel_rfl
@[go_sem] theorem bytesOf_87 : bytesOf Try.prog 87 = 24 := by kernel_rfl
@[go_sem] theorem zeroD_87 : zeroD Try.prog 87 = [.sl .full []] := by kernel_rfl
@[go_sem] theorem fld_87_0 : fld Try.prog 87 0 = some (0, 48) := by kernel_rfl
noncomputable def pl87 : Nat → Option (Nat × Nat) := (placeT Try.prog 87).getD fun _ => none
@[go_sem] theorem placeT_87 : placeT Try.prog 87 = some pl87 := by kernel_rfl
@[go_sem] theorem pl_87_0 : pl87 0 = some (0, 1) := by kernel_rfl
@[go_sem] theorem okT_90 : okT Try.prog 90 = true := by kernel_rfl
@[go_sem] theorem szOf_90 : szOf Try.prog 90 = 1 := by kernel_rfl
@[go_sem] theorem aggT_90 : aggT Try.prog 90 = true := by kernel_rfl
@[go_sem] theorem undS_90 : (Try.prog.underlying 90).isSome = true := by kernel_rfl
@[go_sem] theorem infS_90 : (Try.prog.info? 90).isSome = true := by kernel_rfl
@[go_sem] theorem ifaceT_90 : ifaceT Try.prog 90 = false := by kernel_rfl
@[go_sem] theorem ptrT_90 : ptrT Try.prog 90 = false := by kernel_rfl
@[go_sem] theorem zeroT_90 : zeroT Try.prog 90 = true := by kernel_rfl
@[go_sem] theorem zeroOk_90 : zeroOk Try.prog 90 = true := by kernel_rfl
@[go_sem] theorem bytesOf_90 : bytesOf Try.prog 90 = 24 := by kernel_rfl
@[go_sem] theorem zeroD_90 : zeroD Try.prog 90 = [.sl .full []] := by kernel_rfl
@[go_sem] theorem fld_90_0 : fld Try.prog 90 0 = some (0, 61) := by kernel_rfl
@[go_sem] theorem okT_92 : okT Try.prog 92 = true := by kernel_rfl
@[go_sem] theorem szOf_92 : szOf Try.prog 92 = 1 := by kernel_rfl
@[go_sem] theorem aggT_92 : aggT Try.prog 92 = false := by kernel_rfl
@[go_sem] theorem undS_92 : (Try.prog.underlying 92).isSome = true := by kernel_rfl
@[go_sem] theorem infS_92 : (Try.prog.info? 92).isSome = true := by kernel_rfl
@[go_sem] theorem ifaceT_92 : ifaceT Try.prog 92 = false := by kernel_rfl
@[go_sem] theorem ptrT_92 : ptrT Try.prog 92 = true := by kernel_rfl
@[go_sem] theorem zeroT_92 : zeroT Try.prog 92 = true := by kernel_rfl
@[go_sem] theorem zeroOk_92 : zeroOk Try.prog 92 = true := by kernel_rfl
@[go_sem] theorem bytesOf_92 : bytesOf Try.prog 92 = 8 := by kernel_rfl
@[go_sem] theorem zeroD_92 : zeroD Try.prog 92 = [.v (.pointer none)] := by kernel_rfl
@[go_sem] theorem okT_96 : okT Try.prog 96 = true := by kernel_rfl
@[go_sem] theorem szOf_96 : szOf Try.prog 96 = 1 := by kernel_rfl
@[go_sem] theorem aggT_96 : aggT Try.prog 96 = false := by kernel_rfl
@[go_sem] theorem undS_96 : (Try.prog.underlying 96).isSome = true := by kernel_rfl
@[go_sem] theorem infS_96 : (Try.prog.info? 96).isSome = true := by kernel_rfl
@[go_sem] theorem ifaceT_96 : ifaceT Try.prog 96 = false := by kernel_rfl
@[go_sem] theorem ptrT_96 : ptrT Try.prog 96 = false := by kernel_rfl
@[go_sem] theorem zeroT_96 : zeroT Try.prog 96 = true := by kernel_rfl
@[go_sem] theorem zeroOk_96 : zeroOk Try.prog 96 = true := by kernel_rfl
@[go_sem] theorem bytesOf_96 : bytesOf Try.prog 96 = 8 := by kernel_rfl
@[go_sem] theorem zeroD_96 : zeroD Try.prog 96 = [.v .nilFunc] := by kernel_rfl
@[go_sem] theorem okT_141 : okT Try.prog 141 = true := by kernel_rfl
@[go_sem] theorem szOf_141 : szOf Try.prog 141 = 1 := by kernel_rfl
@[go_sem] theorem aggT_141 : aggT Try.prog 141 = false := by kernel_rfl
@[go_sem] theorem undS_141 : (Try.prog.underlying 141).isSome = true := by kernel_rfl
@[go_sem] theorem infS_141 : (Try.prog.info? 141).isSome = true := by kernel_rfl
@[go_sem] theorem ifaceT_141 : ifaceT Try.prog 141 = false := by kernel_rfl
@[go_sem] theorem ptrT_141 : ptrT Try.prog 141 = false := by kernel_rfl
@[go_sem] theorem zeroT_141 : zeroT Try.prog 141 = true := by kernel_rfl
@[go_sem] theorem zeroOk_141 : zeroOk Try.prog 141 = true := by kernel_rfl
@[go_sem] theorem bytesOf_141 : bytesOf Try.prog 141 = 8 := by kernel_rfl
@[go_sem] theorem zeroD_141 : zeroD Try.prog 141 = [.v .nilFunc] := by kernel_rfl
@[go_sem] theorem okT_148 : okT Try.prog 148 = true := by kernel_rfl
@[go_sem] theorem szOf_148 : szOf Try.prog 148 = 1 := by kernel_rfl
@[go_sem] theorem aggT_148 : aggT Try.prog 148 = false := by kernel_rfl
@[go_sem] theorem undS_148 : (Try.prog.underlying 148).isSome = true := by kernel_rfl
@[go_sem] theorem infS_148 : (Try.prog.info? 148).isSome = true := by kernel_rfl
@[go_sem] theorem ifaceT_148 : ifaceT Try.prog 148 = false := by kernel_rfl
@[go_sem] theorem ptrT_148 : ptrT Try.prog 148 = false := by kernel_rfl
@[go_sem] theorem zeroT_148 : zeroT Try.prog 148 = true := by kernel_rfl
@[go_sem] theorem zeroOk_148 : zeroOk Try.prog 148 = true := by kernel_rfl
@[go_sem] theorem bytesOf_148 : bytesOf Try.prog 148 = 8 := by kernel_rfl
@[go_sem] theorem zeroD_148 : zeroD Try.prog 148 = [.v .nilFunc] := by kernel_rfl
theorem mixed : Try.prog.follows .mixedOrders = true := by kernel_rfl
end Go.Proofs.Ytjjhjhjphhpeiaa

namespace Go.Proofs.Ytjjhjhjphhpeiaa
open Go.RowKit
set_option linter.unusedSimpArgs false

/-- What is not there with this kind: a number, a text, names, marks. -/
def bad1 (kd num : Int) (xl nn ni : Nat) : Prop := kd < 1 ∨ 6 < kd ∨ (kd ≠ 1 ∧ kd ≠ 2 ∧ num ≠ 0) ∨ (kd ≠ 3 ∧ kd ≠ 4 ∧ 0 < xl) ∨ (kd ≠ 5 ∧ 0 < nn) ∨ (kd ≠ 6 ∧ 0 < ni)
instance (kd num : Int) (xl nn ni : Nat) : Decidable (bad1 kd num xl nn ni) := by unfold bad1; exact inferInstance
/-- What is too great, or no name, or too many. -/
def bad2 (kd num : Int) (xl nn ni np : Nat) (bn : Bool) : Prop := (kd = 1 ∧ num ≠ 0 ∧ num ≠ 1) ∨ (kd = 3 ∧ 64 < xl) ∨ (kd = 4 ∧ bn = false) ∨ 8 < nn ∨ 12 < ni ∨ np ≠ nn + ni
instance (kd num : Int) (xl nn ni np : Nat) (bn : Bool) : Decidable (bad2 kd num xl nn ni np bn) := by unfold bad2; exact inferInstance
def hereV (v : DVal) : Bool := (!decide (bad1 v.kind v.n v.s.length v.names.length v.ids.length) && !decide (bad2 v.kind v.n v.s.length v.names.length v.ids.length v.parts.length (nameB v.s))) && ((List.range v.names.length).all (riseOk v.names) && (List.range v.ids.length).all (idOk v.ids))
def soundV : Nat → DVal → Bool
  | 0, _ => true
  | k + 1, v => hereV v && v.parts.all (soundV k)
theorem all_not {l : Nat} {p : Nat → Bool} {i : Nat} (h : i < l) (hp : p i = false) : (List.range l).all p = false := List.all_eq_false.2 ⟨i, List.mem_range.2 h, by simp [hp]⟩
theorem all_of {l : Nat} {p : Nat → Bool} (h : ∀ j, j < l → p j = true) : (List.range l).all p = true := List.all_eq_true.2 fun j hj => h j (List.mem_range.1 hj)
theorem getD_at {α : Type} {l : List α} {i : Nat} {d : α} (h : i < l.length) : l.getD i d = l[i] := by simp [List.getD, h]
end Go.Proofs.Ytjjhjhjphhpeiaa

namespace Go.Proofs.Ytjjhjhjphhpeiaa
open Go.RowKit
theorem plain_hereV (v : DVal) : plainV v = hereV v := by
  unfold plainV hereV riseV idsB
  have hR0 : v.names.length = 0 → (List.range v.names.length).all (riseOk v.names) = true := fun h => by rw [h]; rfl
  have hI0 : v.ids.length = 0 → (List.range v.ids.length).all (idOk v.ids) = true := fun h => by rw [h]; rfl
  have hs : decide (v.s = []) = decide (v.s.length = 0) := by rw [decide_eq_decide, List.length_eq_zero_iff]
  rw [hs]
  have hR : (List.range v.names.length).all (riseOk v.names) = true ∨ ((List.range v.names.length).all (riseOk v.names) = false ∧ 0 < v.names.length) := by
    cases h : (List.range v.names.length).all (riseOk v.names) with
    | true => exact .inl rfl
    | false => exact .inr ⟨rfl, Nat.pos_of_ne_zero fun e => by rw [hR0 e] at h; cases h⟩
  have hI : (List.range v.ids.length).all (idOk v.ids) = true ∨ ((List.range v.ids.length).all (idOk v.ids) = false ∧ 0 < v.ids.length) := by
    cases h : (List.range v.ids.length).all (idOk v.ids) with
    | true => exact .inl rfl
    | false => exact .inr ⟨rfl, Nat.pos_of_ne_zero fun e => by rw [hI0 e] at h; cases h⟩
  clear hR0 hI0 hs
  generalize (List.range v.names.length).all (riseOk v.names) = R at *
  generalize (List.range v.ids.length).all (idOk v.ids) = J at *
  generalize nameB v.s = bn at *
  generalize v.kind = kd at *
  generalize v.n = n at *
  generalize v.s.length = xl at *
  generalize v.names.length = nn at *
  generalize v.ids.length = ni at *
  generalize v.parts.length = np at *
  have hk : kd = 1 ∨ kd = 2 ∨ kd = 3 ∨ kd = 4 ∨ kd = 5 ∨ kd = 6 ∨ (kd < 1 ∨ 6 < kd) := by omega
  rw [Bool.eq_iff_iff]
  rcases hR with rfl | ⟨rfl, hR⟩ <;> rcases hI with rfl | ⟨rfl, hI⟩ <;> cases bn <;> rcases hk with rfl | rfl | rfl | rfl | rfl | rfl | hk
  all_goals first
    | (simp only [Int.reduceEq, reduceIte, Bool.and_eq_true, decide_eq_true_eq, Bool.not_eq_true', decide_eq_false_iff_not, Bool.false_eq_true, Bool.or_eq_true, and_true, true_and, and_false, false_and, false_iff, iff_false] <;> (try simp only [bad1, bad2, Int.reduceEq, Int.reduceLT, Bool.false_eq_true, Bool.true_eq_false, and_true, and_false, true_and, false_and, false_or, or_false, true_or, or_true, ne_eq, not_true_eq_false, not_false_eq_true]) <;> omega)
    | (rw [if_neg (by omega), if_neg (by omega), if_neg (by omega), if_neg (by omega), if_neg (by omega), if_neg (by omega)]; simp only [Bool.and_eq_true, decide_eq_true_eq, Bool.not_eq_true', decide_eq_false_iff_not, Bool.false_eq_true, Bool.or_eq_true, and_true, true_and, and_false, false_and, false_iff, iff_false] <;> (try simp only [bad1, bad2, Bool.false_eq_true, Bool.true_eq_false, and_true, and_false, true_and, false_and, false_or, or_false, true_or, or_true, ne_eq, not_true_eq_false, not_false_eq_true]) <;> omega)
theorem depthsV_all (l : List DVal) (k : Nat) : DVal.depths l ≤ k ↔ ∀ p ∈ l, p.depth ≤ k := by
  induction l with
  | nil => simp [DVal.depths]
  | cons x l ih =>
    simp only [DVal.depths, List.mem_cons, forall_eq_or_imp]
    rw [← ih]; omega
theorem right_soundV (k : Nat) : ∀ (s : DVal) (m : Nat), s.depth ≤ m → rightV k s = (decide (s.depth ≤ k) && soundV m s) := by
  induction k with
  | zero => intro s m _; have := s.depth_pos; simp [rightV]; omega
  | succ k ih =>
    intro s m hm
    obtain ⟨m, rfl⟩ : ∃ n, m = n + 1 := ⟨m - 1, by have := s.depth_pos; omega⟩
    have hd := s.depth_eq
    rw [Bool.eq_iff_iff]
    simp only [rightV, soundV, Bool.and_eq_true, decide_eq_true_eq, plain_hereV, List.all_eq_true]
    have hall := depthsV_all s.parts
    constructor
    · rintro ⟨h1, h2⟩
      have h3 : ∀ p ∈ s.parts, p.depth ≤ k ∧ soundV m p = true := fun p hp => by
        have := h2 p hp
        rw [ih p m (by have := DVal.depth_part hp; omega)] at this
        simpa using this
      exact ⟨by have := (hall k).2 (fun p hp => (h3 p hp).1); omega, h1, fun p hp => (h3 p hp).2⟩
    · rintro ⟨h0, h1, h2⟩
      refine ⟨h1, fun p hp => ?_⟩
      rw [ih p m (by have := DVal.depth_part hp; omega), h2 p hp, Bool.and_true, decide_eq_true_eq]
      exact (hall k).1 (by omega) p hp
theorem arg_val {P : Program} {w : World} {η : Names} {X : Nat → Nat → Prop} {v : DVal} {vs : List Value} (hok : okV v) (h : RepL P w η X [encV v] vs) : ∃ cs : List Value, vs = [.agg cs.toArray] ∧ IsVal w (· < w.heap.size) v cs := by
  simp only [RepL] at h
  obtain ⟨x, xs, rfl, h1, rfl⟩ := h
  obtain ⟨cs, rfl, hv⟩ := val_of_rep v.depth v (Nat.le_refl _) hok h1
  exact ⟨cs, rfl, hv⟩
theorem arg_sch {P : Program} {w : World} {η : Names} {X : Nat → Nat → Prop} {v : DSch} {vs : List Value} (hok : okS v) (h : RepL P w η X [encS v] vs) : ∃ cs : List Value, vs = [.agg cs.toArray] ∧ IsSch w (· < w.heap.size) v cs := by
  simp only [RepL] at h
  obtain ⟨x, xs, rfl, h1, rfl⟩ := h
  obtain ⟨cs, rfl, hv⟩ := sch_of_rep v.depth v (Nat.le_refl _) hok h1
  exact ⟨cs, rfl, hv⟩
/-- A plain answer of one value. -/
theorem dpure_val {P : Program} {g : FuncId} {v : DVal} {r : Value} (hok : okV v) (hent : ∀ vs w, (callFunc g vs).run P w = .ok (.enter g vs) w) (h : ∀ (w : World) (cs : List Value), IsVal w (· < w.heap.size) v cs → Calls P g #[.agg cs.toArray] w (Gives r w)) : DPure P g [encV v] (.v r) :=
  dpure_of_gives hent fun w η X vs hr => by obtain ⟨cs, rfl, hv⟩ := arg_val hok hr; exact h w cs hv
theorem dpure_sch {P : Program} {g : FuncId} {v : DSch} {r : Value} (hok : okS v) (hent : ∀ vs w, (callFunc g vs).run P w = .ok (.enter g vs) w) (h : ∀ (w : World) (cs : List Value), IsSch w (· < w.heap.size) v cs → Calls P g #[.agg cs.toArray] w (Gives r w)) : DPure P g [encS v] (.v r) :=
  dpure_of_gives hent fun w η X vs hr => by obtain ⟨cs, rfl, hv⟩ := arg_sch hok hr; exact h w cs hv
theorem valRight_d (v : DVal) (hok : okV v) : DPure Try.prog 38 [encV v] (.v (.bool (rightV 5 v))) := dpure_val hok (fun _ _ => by kernel_rfl) fun w cs h => valRightP_calls v cs w h
theorem sne1_2 (n : Nat) : (n + 1 = n + 2) = False := eq_false (by omega)
theorem sne1_3 (n : Nat) : (n + 1 = n + 3) = False := eq_false (by omega)
theorem sne1_4 (n : Nat) : (n + 1 = n + 4) = False := eq_false (by omega)
theorem sne2_1 (n : Nat) : (n + 2 = n + 1) = False := eq_false (by omega)
theorem sne2_3 (n : Nat) : (n + 2 = n + 3) = False := eq_false (by omega)
theorem sne2_4 (n : Nat) : (n + 2 = n + 4) = False := eq_false (by omega)
theorem sne3_1 (n : Nat) : (n + 3 = n + 1) = False := eq_false (by omega)
theorem sne3_2 (n : Nat) : (n + 3 = n + 2) = False := eq_false (by omega)
theorem sne3_4 (n : Nat) : (n + 3 = n + 4) = False := eq_false (by omega)
theorem sne4_1 (n : Nat) : (n + 4 = n + 1) = False := eq_false (by omega)
theorem sne4_2 (n : Nat) : (n + 4 = n + 2) = False := eq_false (by omega)
theorem sne4_3 (n : Nat) : (n + 4 = n + 3) = False := eq_false (by omega)
theorem sne1_0 (n : Nat) : (n + 1 = n) = False := eq_false (by omega)
theorem sne0_1 (n : Nat) : (n = n + 1) = False := eq_false (by omega)
theorem sne2_0 (n : Nat) : (n + 2 = n) = False := eq_false (by omega)
theorem sne0_2 (n : Nat) : (n = n + 2) = False := eq_false (by omega)
theorem sne3_0 (n : Nat) : (n + 3 = n) = False := eq_false (by omega)
theorem sne0_3 (n : Nat) : (n = n + 3) = False := eq_false (by omega)
theorem sne4_0 (n : Nat) : (n + 4 = n) = False := eq_false (by omega)
theorem sne0_4 (n : Nat) : (n = n + 4) = False := eq_false (by omega)
attribute [go_sem] sne1_2 sne1_3 sne1_4 sne2_1 sne2_3 sne2_4 sne3_1 sne3_2 sne3_4 sne4_1 sne4_2 sne4_3 sne1_0 sne0_1 sne2_0 sne0_2 sne3_0 sne0_3 sne4_0 sne0_4
theorem bin_beql {x y : Operand} (a b : Bool) : dbin Try.prog .eql 4 x y (.v (.bool a)) (.v (.bool b)) = some (True, .v (.bool (a == b))) := by
  cases a <;> cases b <;> kernel_rfl
attribute [go_sem] bin_beql
theorem strArg {P : Program} {w : World} {η : Names} {X : Nat → Nat → Prop} {own : Own} {l : List Str} {y : Value} (h : Rep P w η X (.sl own (l.map strD)) y) : ∃ A c, y = .slice A l.length c ∧ l.length ≤ c ∧ RF w (· < w.heap.size) 1 A l.length (l.map sv) := scalars_of_rep sv h
/-- Sound at any depth. -/
def RV (v : DVal) : Prop := ∃ m, v.depth ≤ m ∧ soundV m v = true
def RS (s : DSch) : Prop := ∃ m, s.depth ≤ m ∧ soundS m s = true
theorem RV.part {v p : DVal} (h : RV v) (hp : p ∈ v.parts) : RV p := by
  obtain ⟨m, h1, h2⟩ := h
  obtain ⟨m, rfl⟩ : ∃ n, m = n + 1 := ⟨m - 1, by have := v.depth_pos; omega⟩
  rw [soundV, Bool.and_eq_true] at h2
  exact ⟨m, by have := DVal.depth_part hp; omega, List.all_eq_true.1 h2.2 p hp⟩
theorem RS.part {v p : DSch} (h : RS v) (hp : p ∈ v.parts) : RS p := by
  obtain ⟨m, h1, h2⟩ := h
  obtain ⟨m, rfl⟩ : ∃ n, m = n + 1 := ⟨m - 1, by have := v.depth_pos; omega⟩
  rw [soundS, Bool.and_eq_true] at h2
  exact ⟨m, by have := DSch.depth_part hp; omega, List.all_eq_true.1 h2.2 p hp⟩
theorem RV.here {v : DVal} (h : RV v) : (v.kind ≠ 5 → v.names.length = 0) ∧ (v.kind ≠ 6 → v.ids.length = 0) ∧ v.parts.length = v.names.length + v.ids.length := by
  obtain ⟨m, h1, h2⟩ := h
  obtain ⟨m, rfl⟩ : ∃ n, m = n + 1 := ⟨m - 1, by have := v.depth_pos; omega⟩
  rw [soundV, Bool.and_eq_true, hereV, Bool.and_eq_true, Bool.and_eq_true, Bool.not_eq_true', Bool.not_eq_true', decide_eq_false_iff_not, decide_eq_false_iff_not] at h2
  have h3 := h2.1.1.1
  have h4 := h2.1.1.2
  unfold bad1 at h3
  unfold bad2 at h4
  omega
theorem RS.here {s : DSch} (h : RS s) : (s.kind = 5 → s.parts.length = s.words.length) ∧ (s.kind = 6 → s.parts.length = 1) := by
  obtain ⟨m, h1, h2⟩ := h
  obtain ⟨m, rfl⟩ : ∃ n, m = n + 1 := ⟨m - 1, by have := s.depth_pos; omega⟩
  rw [soundS, Bool.and_eq_true, hereS, Bool.and_eq_true, Bool.and_eq_true, decide_eq_true_eq] at h2
  have h3 := h2.1.2.1
  unfold wantS at h3
  exact ⟨fun h => by rw [if_pos h] at h3; exact h3, fun h => by rw [if_neg (by omega), if_pos h] at h3; exact h3⟩
def headF (v : DVal) (s : DSch) : Bool := decide (v.kind = s.kind) && ((!decide (v.kind = 4) || decide (v.s ∈ s.words)) && (!decide (v.kind = 5) || decide (v.names = s.words)))
def atF (s : DSch) (i : Nat) : Nat := if s.kind = 6 then 0 else i
def fitsV : Nat → DVal → DSch → Bool
  | 0, _, _ => true
  | k + 1, v, s => headF v s && (List.range v.parts.length).all fun i => fitsV k (v.parts.getD i default) (s.parts.getD (atF s i) default)
theorem atF_lt {v : DVal} {s : DSch} (hv : RV v) (hs : RS s) (h : headF v s = true) {i : Nat} (hi : i < v.parts.length) : atF s i < s.parts.length := by
  have h1 := hv.here
  have h2 := hs.here
  rw [headF, Bool.and_eq_true, decide_eq_true_eq, Bool.and_eq_true] at h
  obtain ⟨hk, _, hn⟩ := h
  unfold atF
  by_cases h6 : s.kind = 6
  · rw [if_pos h6, h2.2 h6]; omega
  · rw [if_neg h6]
    by_cases h5 : v.kind = 5
    · rw [h5] at hn
      have : v.names = s.words := by simpa using hn
      rw [h2.1 (by omega), ← this]; omega
    · omega
theorem RV.of_right {v : DVal} (h : rightV 5 v = true) : RV v := ⟨v.depth, Nat.le_refl _, by
  have := right_soundV 5 v v.depth (Nat.le_refl _)
  rw [h] at this
  exact (Bool.and_eq_true _ _ ▸ this.symm).2⟩
theorem i64_0 : I64 0 := WalkArith.wf_i64 (by omega)
end Go.Proofs.Ytjjhjhjphhpeiaa

namespace Go.Proofs.Ytjjhjhjphhpeiaa
open Go.RowKit
set_option linter.unusedSimpArgs false
/-- What is known of the memory at a round's head: the row that grows. -/
def rowOb (S : St) (own : Own) (e : TypeId) (n : Nat) : Nat → Option Ob := fun k => match own with
  | .row g => if k = g then some (.row e n) else S.ob k
  | _ => S.ob k
theorem row_sub {S : St} (hS : S.WF) {e : TypeId} {own : Own} {i n : Nat} (h : (i = 0 ∧ own = .full) ∨ (0 < i ∧ ∃ g, own = .row g ∧ S.next ≤ g ∧ g < n)) (hn : S.next ≤ n) : S.Sub ⟨n, rowOb S own e i⟩ := ⟨hn, fun k o hk => by
  rcases h with ⟨_, rfl⟩ | ⟨_, g, rfl, h1, _⟩
  · exact hk
  · have := hS.lt hk
    show (if k = g then _ else _) = _
    rw [if_neg (by omega)]
    exact hk⟩
theorem closed_slV (l : List DVal) : (D.sl .no (l.map encV)).closed := by
  simp only [D.closed, D.all, Own.all]
  exact ⟨trivial, by rw [← encVs_map]; exact closed_encVs l⟩
theorem row_next {S : St} (hS : S.WF) {e : TypeId} {own : Own} {i n : Nat} (h : (i = 0 ∧ own = .full) ∨ (0 < i ∧ ∃ g, own = .row g ∧ S.next ≤ g ∧ g < n)) (hn : S.next ≤ n) (o1 o2 : Ob) (m : Nat) :
    ∀ k o, rowOb S (.row (n + 1)) e m k = some o → (((St.add ⟨n, rowOb S own e i⟩ o1).set n o2).grow own e m).ob k = some o := fun k o hk => by
  by_cases h1 : k = n + 1
  · subst h1
    simp only [rowOb, if_true] at hk
    rcases h with ⟨_, rfl⟩ | ⟨_, g, rfl, _, _⟩
    · rw [grow_full_ob, set_next, add_next, if_pos rfl, hk]
    · rw [grow_row_ob, set_next, add_next, if_pos rfl, hk]
  · simp only [rowOb, if_neg h1] at hk
    have h2 := hS.lt hk
    rcases h with ⟨_, rfl⟩ | ⟨_, g, rfl, h3, h4⟩
    · rw [grow_full_ob, set_next, add_next, if_neg h1, set_ob, add_ob, if_neg (by omega)]
      show (if k = n then _ else rowOb S .full e i k) = _
      rw [if_neg (by omega)]
      exact hk
    · rw [grow_row_ob, set_next, add_next, if_neg h1, if_neg (by omega), set_ob, add_ob, if_neg (by omega)]
      show (if k = n then _ else rowOb S (.row g) e i k) = _
      rw [if_neg (by omega)]
      show (if k = g then _ else _) = _
      rw [if_neg (by omega)]
      exact hk
structure LC (l : List DVal) (S : St) (f : Fm) (T : St) (i : Nat) (own : Own) : Prop where
  st : T.ob = rowOb S own 28 i
  nx : S.next ≤ T.next
  ow : (i = 0 ∧ own = .full) ∨ (0 < i ∧ ∃ g, own = .row g ∧ S.next ≤ g ∧ g < T.next)
  s1 : f 1 = .fn (.func 50) [] []
  s5 : f 5 = .sl own ((l.take i).map encV)
  s8 : f 8 = .sl .no (l.map encV)
  s9 : f 9 = .v (.int .i64 l.length)
  s10 : f 10 = .v (.int .i64 i)
  le : i ≤ l.length
def LCE (l : List DVal) (S : St) (f : Fm) (T : St) : Prop := ∃ i own, LC l S f T i own
set_option maxRecDepth 200000 in
set_option maxHeartbeats 4000000 in
theorem copyParts_d (l : List DVal) (hl : l.length ≤ 1000000) (h : ∀ p ∈ l, DPure Try.prog 50 [encV p] (encV p)) : DPure Try.prog 75 [.sl .no (l.map encV), .fn (.func 50) [] []] (.sl .no (l.map encV)) := by
  refine dpure_of_dwp mixed Try.func75 rfl (fun _ _ => by kernel_rfl) (rs := [.tmp 4]) rfl (by kernel_rfl) (closed_slV l) (fun S hS => ?_)
  simp only [go_sem, add_ob, set_ob]
  refine dloop_mk (LCE l S) (fun f _ => l.length - slotN (f 10)) ⟨0, .full, ⟨rfl, Nat.le_refl _, .inl ⟨rfl, rfl⟩, by simp only [go_sem, add_ob, set_ob], by simp only [go_sem, add_ob, set_ob], by simp only [go_sem, add_ob, set_ob], by simp only [go_sem, add_ob, set_ob], by simp only [go_sem, add_ob, set_ob]; rfl, by omega⟩⟩ ?_
  rintro g ⟨tn, tob⟩ ⟨i, own, q⟩
  obtain rfl : tob = rowOb S own 28 i := q.st
  have nx : S.next ≤ tn := q.nx
  by_cases hlt : i < l.length
  · have b1 : decide ((i : Int) < (l.length : Int)) = true := by simp; omega
    have hx := getD_map encV l i hlt
    have c1 : (0 : Int) ≤ (i : Int) := by omega
    have c2 : (i : Int) < (l.length : Int) := by omega
    have w1 : IntKind.i64.wrap ((i : Int) + 1) = (i : Int) + 1 := IntWalk.i64_in _ ⟨by omega, by omega⟩
    simp only [go_sem, add_ob, set_ob, q.s1, q.s5, q.s8, q.s9, q.s10, b1, hx, c1, c2]
    refine DCalls.of_pure (h l[i] (List.getElem_mem hlt)) ?_
    simp only [go_sem, add_ob, set_ob, q.s1, q.s5, q.s8, q.s9, q.s10, w1]
    refine ⟨⟨by rfl, by omega, fun d hd => by rw [List.mem_singleton] at hd; subst hd; exact ⟨okCell_encV _, cells_encV _⟩⟩, dapp_row ?_⟩
    simp only [go_sem, add_ob, set_ob, q.s1, q.s5, q.s8, q.s9, q.s10, w1]
    have hlt2 : (l.take i).length = i := by rw [List.length_take]; omega
    have hsub0 : S.Sub ⟨tn, rowOb S own 28 i⟩ := row_sub hS q.ow nx
    refine ⟨rfl, fun d hd => ?_, fun d hd => ?_, ?_, by omega, by omega, ?_⟩
    · obtain ⟨p, _, rfl⟩ := List.mem_map.1 hd; exact cells_encV _
    · rw [List.mem_singleton] at hd; subst hd; exact cells_encV _
    · rcases q.ow with ⟨rfl, rfl⟩ | ⟨h0, g', rfl, hg1, hg2⟩
      · trivial
      · have e2 : (g' : Nat) ≠ tn := by have hg : g' < tn := hg2; omega
        simp only [e2, if_false, rowOb, if_true, hlt2]
    · refine round_back (rowOb S (.row (tn + 1)) 28 (i + 1)) ?_ ⟨i + 1, .row (tn + 1), ⟨rfl, ?_, .inr ⟨by omega, _, rfl, by omega, ?_⟩, by simp only [go_sem, add_ob, set_ob, q.s1], ?_, by simp only [go_sem, add_ob, set_ob, q.s8], by simp only [go_sem, add_ob, set_ob, q.s9], by simp only [go_sem, add_ob, set_ob]; rfl, by omega⟩⟩ (by simp only [go_sem, add_ob, set_ob]; omega)
      · rw [hlt2]; exact row_next hS q.ow nx _ _ _
      · show S.next ≤ _
        simp only [grow_next, set_next, add_next]; omega
      · simp only [grow_next, set_next, add_next]; omega
      · simp only [go_sem, add_ob, set_ob]
        rw [List.take_succ_eq_append_getElem hlt, List.map_append]
        rfl
  · have b1 : decide ((i : Int) < (l.length : Int)) = false := by simp; omega
    simp only [go_sem, add_ob, set_ob, q.s1, q.s5, q.s8, q.s9, q.s10, b1]
    have hi : i = l.length := by have := q.le; omega
    exact ⟨by rw [hi, List.take_length]; simp only [D.frz, frz_mapV], row_sub hS q.ow nx⟩
theorem partsLen (v : DVal) : v.parts.length ≤ DVal.weights v.parts := by
  have : ∀ l : List DVal, l.length ≤ DVal.weights l := fun l => by
    induction l with
    | nil => exact Nat.zero_le _
    | cons p l ih => simp only [DVal.weights, List.length_cons]; have := p.weight_eq; omega
  exact this _
set_option maxRecDepth 200000 in
set_option maxHeartbeats 4000000 in
theorem copyV_d (k : Nat) : ∀ (v : DVal), v.depth ≤ k → v.weight ≤ 1000000 → DPure Try.prog 50 [encV v] (encV v) := by
  induction k with
  | zero => intro v h; have := v.depth_pos; omega
  | succ k ih =>
    intro v hk hw
    have hwe := v.weight_eq
    have hpl := partsLen v
    have hparts := copyParts_d v.parts (by omega) fun p hp => ih p (by have := DVal.depth_part hp; omega) (by have := DVal.weight_part hp; omega)
    refine dpure_of_dwp mixed Try.func50 rfl (fun _ _ => by kernel_rfl) (rs := [.cell 2 28]) rfl (by kernel_rfl) (closed_encV v) (fun S hS => ?_)
    simp only [go_sem, add_ob, set_ob, encV_eq v]
    refine ddraw_mk 7 (by kernel_rfl) ?_
    simp only [go_sem, add_ob, set_ob]
    refine ⟨⟨rfl, (fun d hd => by cases hd), (fun d hd => by obtain ⟨p, _, rfl⟩ := List.mem_map.1 hd; rfl), by omega, by omega⟩, ⟨rfl, (fun d hd => by cases hd), (fun d hd => by obtain ⟨p, _, rfl⟩ := List.mem_map.1 hd; rfl), by omega, by omega⟩, ?_⟩
    refine DCalls.of_pure hparts ?_
    simp only [go_sem, add_ob, set_ob]
    refine ⟨?_, ?_⟩
    · simp only [D.frz, frzL, frz_strs, frz_u64s, frz_mapV, strD]
    · exact ((((((St.Sub.refl S).add hS _).add hS _).set hS (Nat.le_refl _) _).set hS (Nat.le_refl _) _).set hS (Nat.le_refl _) _).set hS (by omega) _
end Go.Proofs.Ytjjhjhjphhpeiaa

namespace Go.Proofs.Ytjjhjhjphhpeiaa
open Go.RowKit
set_option linter.unusedSimpArgs false
/-- Where x stands first, or -1. -/
def ixN {α : Type} [DecidableEq α] (l : List α) (x : α) : Nat := l.idxOf x
def ixI {α : Type} [DecidableEq α] (l : List α) (x : α) : Int := if x ∈ l then (ixN l x : Int) else -1
theorem ix_lt {α : Type} [DecidableEq α] {l : List α} {x : α} (h : x ∈ l) : ixN l x < l.length := List.idxOf_lt_length_of_mem h
theorem idxP_ix {α : Type} [DecidableEq α] {l : List α} {x : α} {e : Ending} (h : IdxP (fun i => decide (l[i]? = some x)) l.length e) : e = .returned (.int .i64 (ixI l x)) := by
  rcases h with ⟨k, hk, rfl, h1, h2⟩ | ⟨rfl, h2⟩
  · have hx : l[k] = x := by
      have := of_decide_eq_true h1
      rw [List.getElem?_eq_getElem hk] at this
      exact Option.some.inj this
    have hm : x ∈ l := hx ▸ List.getElem_mem hk
    have hi : ixN l x = k := by
      show l.findIdx (· == x) = k
      rw [List.findIdx_eq hk]
      refine ⟨by simp [hx], fun j hj => ?_⟩
      have := of_decide_eq_false (h2 j hj)
      rw [List.getElem?_eq_getElem (by omega)] at this
      simp only [beq_eq_false_iff_ne, ne_eq]
      exact fun e => this (by rw [e])
    rw [ixI, if_pos hm, hi]
  · have hm : ¬ x ∈ l := fun hm => by
      obtain ⟨j, hj, e⟩ := List.getElem_of_mem hm
      have := of_decide_eq_false (h2 j hj)
      rw [List.getElem?_eq_getElem hj, e] at this
      exact this rfl
    rw [ixI, if_neg hm]
theorem strIndex_d (own : Own) (l : List Str) (x : Str) (hn : l.length ≤ 140737488351232) : DPure Try.prog 59 [.sl own (l.map strD), .v (sv x)] (.v (.int .i64 (ixI l x))) :=
  dpure_of_gives (fun _ _ => by kernel_rfl) fun w η X vs hr => by
    simp only [RepL] at hr
    obtain ⟨y, ys, rfl, h1, z, zs, rfl, h2, rfl⟩ := hr
    obtain ⟨A, c, rfl, hc, hf⟩ := strArg h1
    simp only [Rep] at h2
    subst h2
    exact (strIndex_calls l x A c w hf hn).mono fun e w' ⟨he, hw⟩ => ⟨idxP_ix he, hw ▸ Below.refl _ _⟩
theorem uIndex_d (own : Own) (l : List Nat) (x : Nat) (hn : l.length ≤ 140737488351232) : DPure Try.prog 36 [.sl own (l.map u64D), .v (uv x)] (.v (.int .i64 (ixI l x))) :=
  dpure_of_gives (fun _ _ => by kernel_rfl) fun w η X vs hr => by
    simp only [RepL] at hr
    obtain ⟨y, ys, rfl, h1, z, zs, rfl, h2, rfl⟩ := hr
    obtain ⟨A, c, rfl, hc, hf⟩ := scalars_of_rep uv h1
    simp only [Rep] at h2
    subst h2
    exact (uIndex_calls l x A c w hf hn).mono fun e w' ⟨he, hw⟩ => ⟨idxP_ix he, hw ▸ Below.refl _ _⟩
/-- Has the value each named part? -/
def wholeB (v : DVal) : Bool := decide (v.kind = 5) && decide (v.names.length ≤ v.parts.length)
set_option maxRecDepth 200000 in
set_option maxHeartbeats 4000000 in
theorem whole_d (v : DVal) : DPure Try.prog 58 [encV v] (.v (.bool (wholeB v))) := by
  refine dpure_of_dwp mixed Try.func58 rfl (fun _ _ => by kernel_rfl) (rs := [.tmp 2]) rfl (by kernel_rfl) trivial (fun S hS => ?_)
  by_cases h5 : v.kind = 5
  · have b5 : (v.kind == 5) = true := by simp [h5]
    simp only [go_sem, add_ob, set_ob, encV_eq v, b5]
    refine ⟨?_, (St.Sub.refl S).add hS _⟩
    simp only [D.frz, wholeB, decide_eq_true h5, Bool.true_and]
    congr 3
    exact propext ⟨fun h => by omega, fun h => by omega⟩
  · have b5 : (v.kind == 5) = false := by simp [h5]
    simp only [go_sem, add_ob, set_ob, encV_eq v, b5]
    exact ⟨by simp only [D.frz, wholeB, decide_eq_false h5, Bool.false_and], (St.Sub.refl S).add hS _⟩
def elemV (v : DVal) (x : Nat) : D := if v.kind = 6 ∧ x ∈ v.ids then .tup [.v (.int .i64 (ixN v.ids x : Int)), .v (.bool true)] else .tup [.v (.int .i64 0), .v (.bool false)]
theorem elemV_closed (v : DVal) (x : Nat) : (elemV v x).closed := by unfold elemV; split <;> simp [D.closed, D.all, allL]
set_option maxRecDepth 200000 in
set_option maxHeartbeats 4000000 in
theorem elem_d (v : DVal) (x : Nat) (hn : v.ids.length ≤ 140737488351232) : DPure Try.prog 12 [encV v, .v (uv x)] (elemV v x) := by
  refine dpure_of_dwp mixed Try.func12 rfl (fun _ _ => by kernel_rfl) (rs := [.tmp 4, .tmp 5]) rfl (by kernel_rfl) (elemV_closed v x) (fun S hS => ?_)
  simp only [go_sem, add_ob, set_ob, encV_eq v]
  refine DCalls.of_pure (uIndex_d .no v.ids x hn) ?_
  by_cases h6 : v.kind = 6
  · have b6 : (v.kind != 6) = false := by simp [h6]
    by_cases hm : x ∈ v.ids
    · have b7 : decide (ixI v.ids x < 0) = false := by unfold ixI; rw [if_pos hm]; simp
      simp only [go_sem, add_ob, set_ob, b6, b7]
      refine ⟨?_, (St.Sub.refl S).add hS _⟩
      simp only [D.frz, frzL, elemV, h6, hm, and_self, if_true, ixI]
    · have b7 : decide (ixI v.ids x < 0) = true := by unfold ixI; rw [if_neg hm]; decide
      simp only [go_sem, add_ob, set_ob, b6, b7]
      refine ⟨?_, (St.Sub.refl S).add hS _⟩
      simp only [D.frz, frzL, elemV, hm, and_false, if_false]
  · have b6 : (v.kind != 6) = true := by simp [h6]
    simp only [go_sem, add_ob, set_ob, b6]
    refine ⟨?_, (St.Sub.refl S).add hS _⟩
    simp only [D.frz, frzL, elemV, h6, false_and, if_false]
theorem pfin_cell_tmp_normal {P : Program} {S : St} {f : Fm} (x : Tmp) (t : TypeId) (u : Tmp) (S' : St) (d : D) : DQ.pfin P [.cell x t, .tmp u] S d .normal f S' = dcellR P S' t (f x) (fun r => PFin S S' (.tup [r, f u]) d) := by
  rw [← onVal_cell]
  simp [DQ.pfin, dresL, dres, onVal, one]
theorem pfin_cell_tmp_ret {P : Program} {S : St} {f : Fm} (x : Tmp) (t : TypeId) (u : Tmp) (S' : St) (d : D) : DQ.pfin P [.cell x t, .tmp u] S d .ret f S' = dcellR P S' t (f x) (fun r => PFin S S' (.tup [r, f u]) d) := by
  rw [← onVal_cell]
  simp [DQ.pfin, dresL, dres, onVal, one]
attribute [go_sem] pfin_cell_tmp_normal pfin_cell_tmp_ret
def fieldV (v : DVal) (x : Str) : D := if wholeB v = true ∧ x ∈ v.names then .tup [encV (v.parts.getD (ixN v.names x) default), .v (.bool true)] else .tup [encV zeroV, .v (.bool false)]
theorem fieldV_closed (v : DVal) (x : Str) : (fieldV v x).closed := by
  unfold fieldV
  split <;> (simp only [D.closed, D.all, allL, and_true]; exact closed_encV _)
set_option maxRecDepth 200000 in
set_option maxHeartbeats 4000000 in
theorem field_d (v : DVal) (x : Str) (hok : okV v) (hw : v.weight ≤ 1000000) : DPure Try.prog 120 [encV v, .v (sv x)] (fieldV v x) := by
  obtain ⟨o1, o2, o3, o4, o5, o6, o7, o8, o9⟩ := (okV_eq v).1 hok
  refine dpure_of_dwp mixed Try.func120 rfl (fun _ _ => by kernel_rfl) (rs := [.cell 4 28, .tmp 5]) rfl (by kernel_rfl) (fieldV_closed v x) (fun S hS => ?_)
  have hsub : ∀ a b c, S.Sub (((S.add a).add b).set (S.next + 1) c) := fun a b c => (((St.Sub.refl S).add hS _).add hS _).set hS (by omega) _
  simp only [go_sem, add_ob, set_ob, encV_eq v]
  refine DCalls.of_pure (strIndex_d .no v.names x o5) ?_
  simp only [go_sem, add_ob, set_ob]
  refine DCalls.of_pure (by have := whole_d v; rw [encV_eq v] at this; exact this) ?_
  cases hwb : wholeB v with
  | true =>
    by_cases hm : x ∈ v.names
    · have b7 : decide (ixI v.names x < 0) = false := by unfold ixI; rw [if_pos hm]; simp
      have hlt := ix_lt hm
      have hpl : ixN v.names x < v.parts.length := by
        simp only [wholeB, Bool.and_eq_true, decide_eq_true_eq] at hwb
        omega
      have hi : ixI v.names x = (ixN v.names x : Int) := by unfold ixI; rw [if_pos hm]
      have b8 : decide ((ixN v.names x : Int) < 0) = false := by simp
      have hx := getD_map encV v.parts _ hpl
      have c1 : (0 : Int) ≤ (ixN v.names x : Int) := by omega
      have c2 : (ixN v.names x : Int) < (v.parts.length : Int) := by omega
      simp only [go_sem, add_ob, set_ob, hi, b8, hx, c1, c2]
      refine DCalls.of_pure (copyV_d _ v.parts[ixN v.names x] (Nat.le_refl _) (by have := DVal.weight_part (List.getElem_mem hpl); omega)) ?_
      simp only [go_sem, add_ob, set_ob]
      refine ⟨?_, hsub _ _ _⟩
      simp only [D.frz, frzL, frz_encV, fieldV, hwb, hm, and_self, if_true, getD_at hpl]
    · have b7 : decide (ixI v.names x < 0) = true := by unfold ixI; rw [if_neg hm]; decide
      simp only [go_sem, add_ob, set_ob, b7]
      refine ⟨?_, hsub _ _ _⟩
      simp only [D.frz, frzL, fieldV, hm, and_false, if_false]
      rfl
  | false =>
    simp only [go_sem, add_ob, set_ob]
    refine ⟨?_, hsub _ _ _⟩
    simp only [D.frz, frzL, fieldV, hwb, Bool.false_eq_true, false_and, if_false]
    rfl
abbrev DStp := Str × Nat
def encP (p : DStp) : D := .agg [strD p.1, u64D p.2]
/-- Where a step leads. -/
def placeOf (v : DVal) (p : DStp) : Int := if p.1 = [] then (if v.kind = 6 ∧ p.2 ∈ v.ids then (ixN v.ids p.2 : Int) else -1) else if wholeB v = true ∧ p.1 ∈ v.names then (ixN v.names p.1 : Int) else -1
def partV (v : DVal) (p : DStp) : D := .tup [.v (.int .i64 (placeOf v p)), .v (.bool (decide (0 ≤ placeOf v p) && decide (placeOf v p < (v.parts.length : Int))))]
theorem part_end {v : DVal} {p : DStp} {S T : St} (hs : S.Sub T) {i : Int} (hi : i = placeOf v p) {b : Bool} (hb : b = (decide (0 ≤ placeOf v p) && decide (placeOf v p < (v.parts.length : Int)))) : PFin S T (.tup [.v (.int .i64 i), .v (.bool b)]) (partV v p) := ⟨by rw [hi, hb]; rfl, hs⟩
set_option maxRecDepth 200000 in
set_option maxHeartbeats 4000000 in
theorem part_d (v : DVal) (p : DStp) (hok : okV v) (hw : v.weight ≤ 1000000) : DPure Try.prog 99 [encV v, encP p] (partV v p) := by
  obtain ⟨o1, o2, o3, o4, o5, o6, o7, o8, o9⟩ := (okV_eq v).1 hok
  refine dpure_of_dwp mixed Try.func99 rfl (fun _ _ => by kernel_rfl) (rs := [.tmp 4, .tmp 5]) rfl (by kernel_rfl) (by simp [partV, D.closed, D.all, allL]) (fun S hS => ?_)
  simp only [go_sem, add_ob, set_ob, encP]
  by_cases h0 : p.1 = []
  · have b1 : (p.1 == []) = true := by simp [h0]
    simp only [go_sem, add_ob, set_ob, b1]
    refine DCalls.of_pure (elem_d v p.2 o7) ?_
    by_cases hc : v.kind = 6 ∧ p.2 ∈ v.ids
    · have he : elemV v p.2 = .tup [.v (.int .i64 (ixN v.ids p.2 : Int)), .v (.bool true)] := by unfold elemV; rw [if_pos hc]
      have hpl : placeOf v p = (ixN v.ids p.2 : Int) := by unfold placeOf; rw [if_pos h0, if_pos hc]
      have b2 : decide ((0 : Int) ≤ (ixN v.ids p.2 : Int)) = true := by simp
      simp only [go_sem, add_ob, set_ob, he, b2]
      refine ddraw_mk 12 (by kernel_rfl) ?_
      simp only [go_sem, add_ob, set_ob, b2, encV_eq v]
      exact part_end (((St.Sub.refl S).add hS _).add hS _) hpl.symm (by rw [hpl, b2, Bool.true_and])
    · have he : elemV v p.2 = .tup [.v (.int .i64 0), .v (.bool false)] := by unfold elemV; rw [if_neg hc]
      have hpl : placeOf v p = -1 := by unfold placeOf; rw [if_pos h0, if_neg hc]
      have b2 : decide ((0 : Int) ≤ -1) = false := by decide
      simp only [go_sem, add_ob, set_ob, he, b2]
      refine ddraw_mk 12 (by kernel_rfl) ?_
      simp only [go_sem, add_ob, set_ob, b2, encV_eq v]
      exact part_end (((St.Sub.refl S).add hS _).add hS _) hpl.symm (by rw [hpl, b2, Bool.false_and])
  · have b1 : (p.1 == []) = false := by simp [h0]
    simp only [go_sem, add_ob, set_ob, b1]
    refine DCalls.of_pure (field_d v p.1 hok hw) ?_
    by_cases hc : wholeB v = true ∧ p.1 ∈ v.names
    · have he : fieldV v p.1 = .tup [encV (v.parts.getD (ixN v.names p.1) default), .v (.bool true)] := by unfold fieldV; rw [if_pos hc]
      have hi : ixI v.names p.1 = (ixN v.names p.1 : Int) := by unfold ixI; rw [if_pos hc.2]
      have hpl : placeOf v p = (ixN v.names p.1 : Int) := by unfold placeOf; rw [if_neg h0, if_pos hc]
      have b2 : decide ((0 : Int) ≤ (ixN v.names p.1 : Int)) = true := by simp
      simp only [go_sem, add_ob, set_ob, he, b2, encV_eq v]
      refine DCalls.of_pure (strIndex_d .no v.names p.1 o5) ?_
      simp only [go_sem, add_ob, set_ob, hi, b2]
      refine ddraw_mk 12 (by kernel_rfl) ?_
      simp only [go_sem, add_ob, set_ob, b2, encV_eq v]
      exact part_end ((((St.Sub.refl S).add hS _).add hS _).add hS _ |>.set hS (by omega) _) hpl.symm (by rw [hpl, b2, Bool.true_and])
    · have he : fieldV v p.1 = .tup [encV zeroV, .v (.bool false)] := by unfold fieldV; rw [if_neg hc]
      have hpl : placeOf v p = -1 := by unfold placeOf; rw [if_neg h0, if_neg hc]
      have b2 : decide ((0 : Int) ≤ -1) = false := by decide
      simp only [go_sem, add_ob, set_ob, he, b2]
      refine ddraw_mk 12 (by kernel_rfl) ?_
      simp only [go_sem, add_ob, set_ob, b2, encV_eq v]
      exact part_end ((((St.Sub.refl S).add hS _).add hS _).add hS _ |>.set hS (by omega) _) hpl.symm (by rw [hpl, b2, Bool.false_and])
end Go.Proofs.Ytjjhjhjphhpeiaa

namespace Go.Proofs.Ytjjhjhjphhpeiaa
open Go.RowKit
set_option linter.unusedSimpArgs false
theorem fin_cell_normal {P : Program} {S : St} {f : Fm} {K : D → St → Prop} (x : Tmp) (t : TypeId) (S' : St) : DQ.fin P [.cell x t] S K .normal f S' = dcellR P S' t (f x) (fun r => DFinT P S S' r K) := onVal_cell x t _
theorem fin_cell_ret {P : Program} {S : St} {f : Fm} {K : D → St → Prop} (x : Tmp) (t : TypeId) (S' : St) : DQ.fin P [.cell x t] S K .ret f S' = dcellR P S' t (f x) (fun r => DFinT P S S' r K) := onVal_cell x t _
theorem fin_cell_tmp_normal {P : Program} {S : St} {f : Fm} {K : D → St → Prop} (x : Tmp) (t : TypeId) (u : Tmp) (S' : St) : DQ.fin P [.cell x t, .tmp u] S K .normal f S' = dcellR P S' t (f x) (fun r => DFinT P S S' (.tup [r, f u]) K) := by
  rw [← onVal_cell]
  simp [DQ.fin, dresL, dres, onVal, one]
theorem fin_cell_tmp_ret {P : Program} {S : St} {f : Fm} {K : D → St → Prop} (x : Tmp) (t : TypeId) (u : Tmp) (S' : St) : DQ.fin P [.cell x t, .tmp u] S K .ret f S' = dcellR P S' t (f x) (fun r => DFinT P S S' (.tup [r, f u]) K) := by
  rw [← onVal_cell]
  simp [DQ.fin, dresL, dres, onVal, one]
attribute [go_sem] fin_cell_normal fin_cell_ret fin_cell_tmp_normal fin_cell_tmp_ret
theorem allL_closed {l : List D} {n : Nat} (h : allL (fun _ => False) l) : allL (· < n) l := allL_mono (fun _ h => h.elim) h
theorem encV_cells_closed (v : DVal) : allL (fun _ => False) (encV v).cells := by
  have := closed_encV v
  rw [encV_eq] at this ⊢
  exact this
/-- The visitor keeps a copy of what it is given, in the variable that it caught, and gives it back. -/
theorem get1_fin {S T : St} {c : Nat} {cs : List D} {u : DVal} (hS : S.WF) (hc : S.ob c = some (.box 28 cs)) (hn : S.next ≤ T.next) (h1 : T.ob c = some (.box 28 (encV u).cells)) (h2 : ∀ k o, k ≠ c → S.ob k = some o → T.ob k = some o) {d : D} (hd : d = encV u) :
    DFin S T d (fun d S' => d = encV u ∧ S' = S.set c (.box 28 (encV u).cells)) := by
  subst hd
  refine ⟨encV u, S.set c (.box 28 (encV u).cells), DLe.refl _, D.all_mono (fun _ h => h.elim) (closed_encV u), hn, Nat.le_refl _, fun k o hk => ?_, rfl, rfl⟩
  simp only [set_ob] at hk
  by_cases e : k = c
  · subst e
    rw [if_pos rfl] at hk
    injection hk with hk
    subst hk
    refine ⟨h1, hS.lt hc, fun t cs' hb => .inr ?_⟩
    injection hb with hb1 hb2
    subst hb2
    exact allL_closed (encV_cells_closed u)
  · rw [if_neg e] at hk
    exact ⟨h2 k o e hk, hS.lt hk, fun _ _ _ => .inl hk⟩
set_option maxRecDepth 200000 in
set_option maxHeartbeats 4000000 in
theorem get1_d (S : St) (c : Nat) (cs : List D) (hc : S.ob c = some (.box 28 cs)) (hl : cs.length = 6) (u : DVal) (hw : u.weight ≤ 1000000) :
    DCalls Try.prog 67 [encV u, .loc c 0] S (fun d S' => d = encV u ∧ S' = S.set c (.box 28 (encV u).cells)) := by
  refine dcalls_of_dwp mixed Try.func67 rfl (fun _ _ => by kernel_rfl) (rs := [.cell 3 28]) rfl (by kernel_rfl) (fun hS => ?_)
  have hlt := hS.lt hc
  have e1 : (c = S.next) = False := eq_false (by omega)
  have e2 : (c = S.next + 1) = False := eq_false (by omega)
  have e3 : (S.next = c) = False := eq_false (by omega)
  have e4 : (S.next + 1 = c) = False := eq_false (by omega)
  have hd : cs.drop 6 = [] := List.drop_of_length_le (by omega)
  simp only [go_sem, add_ob, set_ob]
  refine DCalls.of_pure (copyV_d _ u (Nat.le_refl _) hw) ?_
  simp only [go_sem, add_ob, set_ob, e1, e2, e3, e4, hc, hl, hd]
  refine DFin.t (get1_fin hS hc (by simp only [set_next, add_next]; omega) ?_ (fun k o hk ho => ?_) rfl)
  · simp only [set_ob]
    rw [if_neg (by omega), if_pos trivial]
  · have := hS.lt ho
    simp only [set_ob, add_ob, add_next]
    rw [if_neg (by omega), if_neg hk, if_neg (by omega), if_neg (by omega)]
    exact ho
/-- What lies at the end of a path. -/
def getV : List DStp → DVal → Option DVal
  | [], v => some v
  | p :: ps, v => if 0 ≤ placeOf v p ∧ placeOf v p < (v.parts.length : Int) then getV ps (v.parts.getD (placeOf v p).toNat default) else none
end Go.Proofs.Ytjjhjhjphhpeiaa

namespace Go.Proofs.Ytjjhjhjphhpeiaa
open Go.RowKit
set_option linter.unusedSimpArgs false
theorem fin_tmp_normal {P : Program} {S : St} {f : Fm} {K : D → St → Prop} (t : Tmp) (S' : St) : DQ.fin P [.tmp t] S K .normal f S' = DFinT P S S' (f t) K := by simp [DQ.fin, dresL, dres, onVal, one]
theorem fin_tmp_ret {P : Program} {S : St} {f : Fm} {K : D → St → Prop} (t : Tmp) (S' : St) : DQ.fin P [.tmp t] S K .ret f S' = DFinT P S S' (f t) K := by simp [DQ.fin, dresL, dres, onVal, one]
attribute [go_sem] fin_tmp_normal fin_tmp_ret
theorem fin_pure {S T : St} (hS : S.WF) {d : D} (hc : d.closed) (hs : S.Sub T) : DFin S T d (fun d' T' => d' = d ∧ T' = S) :=
  ⟨d, S, DLe.refl _, D.all_mono (fun _ h => h.elim) hc, hs.next, Nat.le_refl _, fun k o hk => ⟨hs.ob k o hk, hS.lt hk, fun _ _ _ => .inl hk⟩, rfl, rfl⟩
theorem closed_steps (own : Own) (ho : own.all fun _ => False) (l : List DStp) : (D.sl own (l.map encP)).closed := by
  simp only [D.closed, D.all]
  refine ⟨ho, allL_iff.2 fun d hd => ?_⟩
  obtain ⟨p, _, rfl⟩ := List.mem_map.1 hd
  simp [encP, D.all, allL, strD, u64D]
theorem clip_d (own : Own) (l : List DStp) (hl : l.length ≤ 140737488351232) : DPure Try.prog 98 [.sl own (l.map encP)] (.sl .full (l.map encP)) := fun S => by
  refine dcalls_of_dwp mixed Try.func98 rfl (fun _ _ => by kernel_rfl) (rs := [.tmp 2]) rfl (by kernel_rfl) (fun hS => ?_)
  have c1 : (0 : Int) ≤ (l.length : Int) := by omega
  simp only [go_sem, add_ob, set_ob, bnd, c1, Int.le_refl, List.take_length, List.length_map, Option.isSome_some, true_or, Int.toNat_natCast]
  have ht : (List.map encP l).take l.length = l.map encP := List.take_of_length_le (by simp)
  simp only [Int.toNat_zero, List.drop_zero, ht]
  exact (fin_pure hS (closed_steps .full trivial l) (St.Sub.refl S)).t
end Go.Proofs.Ytjjhjhjphhpeiaa

namespace Go.Proofs.Ytjjhjhjphhpeiaa
open Go.RowKit
theorem idx_of_first {α : Type} [DecidableEq α] {l : List α} {i : Nat} (hi : i < l.length) (h : ∀ j (hj : j < i), l[j]'(by omega) ≠ l[i]) : ixN l l[i] = i := by
  show l.findIdx (· == l[i]) = i
  rw [List.findIdx_eq hi]
  exact ⟨by simp, fun j hj => by simpa using h j hj⟩
theorem ixI_first {α : Type} [DecidableEq α] {l : List α} {x : α} {i : Nat} (hi : i < l.length) (hx : l[i] = x) (hno : ∀ j (hj : j < i), l[j]'(by omega) ≠ x) : ixI l x = (i : Int) := by
  subst hx
  rw [ixI, if_pos (List.getElem_mem hi), idx_of_first hi hno]
theorem ixI_none {α : Type} [DecidableEq α] {l : List α} {x : α} (hno : ∀ j (hj : j < l.length), l[j] ≠ x) : ixI l x = -1 := by
  rw [ixI, if_neg]
  intro hm
  obtain ⟨j, hj, e⟩ := List.getElem_of_mem hm
  exact hno j hj e
theorem sv_beq (a b : Str) : ((strB a).toList == (strB b).toList) = decide (a = b) := by
  rw [Bool.eq_iff_iff]; simp [strB, Go.Lib.toList_data]
end Go.Proofs.Ytjjhjhjphhpeiaa

namespace Go.Proofs.Ytjjhjhjphhpeiaa
open Go.RowKit
set_option linter.unusedSimpArgs false
theorem strContains_d (own : Own) (l : List Str) (x : Str) (hn : l.length ≤ 140737488351232) : DPure Try.prog 82 [.sl own (l.map strD), .v (sv x)] (.v (.bool (decide (x ∈ l)))) :=
  dpure_of_gives (fun _ _ => by kernel_rfl) fun w η X vs hr => by
    simp only [RepL] at hr
    obtain ⟨y, ys, rfl, h1, z, zs, rfl, h2, rfl⟩ := hr
    obtain ⟨A, c, rfl, hc, hf⟩ := strArg h1
    simp only [Rep] at h2
    subst h2
    exact (strContains_calls l x A c w hf hn).mono fun e w' ⟨he, hw⟩ => ⟨he, hw ▸ Below.refl _ _⟩
theorem strEqual_d (own own2 : Own) (l m : List Str) (hn : l.length ≤ 140737488351232) (hm : m.length ≤ 140737488351232) : DPure Try.prog 68 [.sl own (l.map strD), .sl own2 (m.map strD)] (.v (.bool (decide (l = m)))) :=
  dpure_of_gives (fun _ _ => by kernel_rfl) fun w η X vs hr => by
    simp only [RepL] at hr
    obtain ⟨y, ys, rfl, h1, z, zs, rfl, h2, rfl⟩ := hr
    obtain ⟨A, c, rfl, hc, hf⟩ := strArg h1
    obtain ⟨A2, c2, rfl, hc2, hf2⟩ := strArg h2
    exact strEqual_calls l m A A2 c c2 w hf hf2 hn hm
def fitsSt (v : DVal) (s : DSch) (S : St) : St := (S.add (.box 28 [.v (.int .i64 v.kind), .v (.int .i64 v.n), strD v.s, .sl .no (v.names.map strD), .sl .no (v.ids.map u64D), .sl .no (v.parts.map encV)])).add (.box 47 [.v (.int .i64 s.kind), .sl .no (s.words.map strD), .sl .no (s.parts.map encS)])
theorem fits_sub {S : St} (hS : S.WF) (v : DVal) (s : DSch) {n : Nat} (hn : S.next + 2 ≤ n) : S.Sub ⟨n, (fitsSt v s S).ob⟩ :=
  ⟨by show S.next ≤ n; omega, (((St.Sub.refl S).add hS _).add hS _).ob⟩
theorem fits_back {S : St} (hS : S.WF) (v : DVal) (s : DSch) {n : Nat} (hn : S.next + 2 ≤ n) (o o2 : Ob) : ∀ k o', (fitsSt v s S).ob k = some o' → ((St.add ⟨n, (fitsSt v s S).ob⟩ o).set n o2).ob k = some o' := fun k o' h => by
  have hk : k ≠ n := fun e => by
    subst e
    simp only [fitsSt, add_ob, add_next] at h
    rw [if_neg (by omega), if_neg (by omega), hS k (by omega)] at h
    cases h
  simp only [set_ob, add_ob]
  rw [if_neg hk, if_neg hk]
  exact h
structure FCut (v : DVal) (s : DSch) (S : St) (f : Fm) (T : St) : Prop where
  st : T = fitsSt v s S
  s2 : f 2 = .loc S.next 0
  s3 : f 3 = .loc (S.next + 1) 0
  s38 : f 38 = .v (.bool (!headF v s))
structure LF (k : Nat) (v : DVal) (s : DSch) (S : St) (f : Fm) (T : St) (i : Nat) : Prop where
  st : T.ob = (fitsSt v s S).ob
  nx : S.next + 2 ≤ T.next
  s2 : f 2 = .loc S.next 0
  s3 : f 3 = .loc (S.next + 1) 0
  s40 : f 40 = .sl .no (v.parts.map encV)
  s41 : f 41 = .v (.int .i64 v.parts.length)
  s42 : f 42 = .v (.int .i64 i)
  le : i ≤ v.parts.length
  ok : ∀ j, j < i → fitsV k (v.parts.getD j default) (s.parts.getD (atF s j) default) = true
def LFE (k : Nat) (v : DVal) (s : DSch) (S : St) (f : Fm) (T : St) : Prop := ∃ i, LF k v s S f T i
set_option maxRecDepth 200000 in
set_option maxHeartbeats 8000000 in
theorem fits_d (k : Nat) : ∀ (v : DVal) (s : DSch), v.depth ≤ k → okV v → okS s → RV v → RS s → DPure Try.prog 54 [encV v, encS s] (.v (.bool (fitsV k v s))) := by
  induction k with
  | zero => intro v s h; have := v.depth_pos; omega
  | succ k ih =>
    intro v s hk hov hos hv hs
    obtain ⟨o1, o2, o3, o4, o5, o6, o7, o8, o9⟩ := (okV_eq v).1 hov
    obtain ⟨p1, p2, p3, p4, p5⟩ := (okS_eq s).1 hos
    refine dpure_of_dwp mixed Try.func54 rfl (fun _ _ => by kernel_rfl) (rs := [.tmp 4]) rfl (by kernel_rfl) trivial (fun S hS => ?_)
    simp only [go_sem, add_ob, set_ob, encV_eq v, encS_eq s]
    refine cut_guard (FCut v s S) rfl ?_ ?_
    · intro f T h
      obtain rfl := h.st
      cases hh : headF v s with
      | false =>
        simp only [go_sem, add_ob, set_ob, h.s38, hh]
        exact ⟨by rw [fitsV, hh]; rfl, ((St.Sub.refl S).add hS _).add hS _⟩
      | true =>
        simp only [go_sem, add_ob, set_ob, h.s38, hh, h.s2, h.s3, fitsSt]
        refine dloop_mk (LFE k v s S) (fun f _ => v.parts.length - slotN (f 42)) ⟨0, ⟨rfl, Nat.le_refl _, by simp only [go_sem, add_ob, set_ob, h.s2], by simp only [go_sem, add_ob, set_ob, h.s3], by simp only [go_sem, add_ob, set_ob], by simp only [go_sem, add_ob, set_ob], by simp only [go_sem, add_ob, set_ob]; rfl, by omega, fun j hj => by omega⟩⟩ ?_
        rintro g ⟨tn, tob⟩ ⟨i, q⟩
        obtain rfl : tob = (fitsSt v s S).ob := q.st
        have nx : S.next + 2 ≤ tn := q.nx
        have e1 : (S.next = tn) = False := eq_false (by omega)
        have e2 : (S.next + 1 = tn) = False := eq_false (by omega)
        have e3 : (tn = S.next) = False := eq_false (by omega)
        have e4 : (tn = S.next + 1) = False := eq_false (by omega)
        by_cases hlt : i < v.parts.length
        · have b1 : decide ((i : Int) < (v.parts.length : Int)) = true := by simp; omega
          have hx := getD_map encV v.parts i hlt
          have c1 : (0 : Int) ≤ (i : Int) := by omega
          have c2 : (i : Int) < (v.parts.length : Int) := by omega
          have w1 : IntKind.i64.wrap ((i : Int) + 1) = (i : Int) + 1 := IntWalk.i64_in _ ⟨by omega, by omega⟩
          have hat := atF_lt hv hs hh hlt
          have hy := getD_map encS s.parts (atF s i) hat
          have c3 : (0 : Int) ≤ (atF s i : Int) := by omega
          have c4 : (atF s i : Int) < (s.parts.length : Int) := by omega
          have hd := DVal.depth_part (List.getElem_mem hlt)
          have hfit : fitsV k (v.parts.getD i default) (s.parts.getD (atF s i) default) = fitsV k v.parts[i] s.parts[atF s i] := by rw [getD_at hlt, getD_at hat]
          have hcall := ih v.parts[i] s.parts[atF s i] (by omega) (o9 _ (List.getElem_mem hlt)) (p5 _ (List.getElem_mem hat)) (hv.part (List.getElem_mem hlt)) (hs.part (List.getElem_mem hat))
          have hsub := fits_sub hS v s nx
          have hback := fits_back hS v s nx
          have next : fitsV k v.parts[i] s.parts[atF s i] = true → ∀ j, j < i + 1 → fitsV k (v.parts.getD j default) (s.parts.getD (atF s j) default) = true := fun hh j hj => by
            by_cases e : j = i
            · rw [e, hfit]; exact hh
            · exact q.ok j (by omega)
          have bad : fitsV k v.parts[i] s.parts[atF s i] = false → fitsV (k + 1) v s = false := fun hb => by
            simp only [fitsV]
            rw [all_not (p := fun i => fitsV k (v.parts.getD i default) (s.parts.getD (atF s i) default)) hlt (by rw [hfit]; exact hb), Bool.and_false]
          by_cases h6 : s.kind = 6
          · have b6 : (s.kind == 6) = true := by simp [h6]
            have ha : atF s i = 0 := by unfold atF; rw [if_pos h6]
            simp only [go_sem, add_ob, set_ob, q.s2, q.s3, q.s40, q.s41, q.s42, b1, hx, c1, c2, fitsSt, e1, e2, e3, e4, b6]
            have hy0 : (s.parts.map encS).getD 0 undefD = encS s.parts[atF s i] := by rw [← hy, ha]
            have c5 : (0 : Int) < (s.parts.length : Int) := by omega
            have c6 : (0 : Int) ≤ 0 := Int.le_refl _
            refine ddraw_mk 8 (by kernel_rfl) ?_
            simp only [go_sem, add_ob, set_ob, q.s3, e1, e2, e3, e4, hy0, c5, c6, Int.toNat_zero]
            refine dqgo_mk hcall ?_
            cases hf : fitsV k v.parts[i] s.parts[atF s i] with
            | false =>
              simp only [go_sem, add_ob, set_ob, hf]
              exact ⟨by rw [bad hf]; rfl, (hsub.add hS _).set hS (by omega) _⟩
            | true =>
              simp only [go_sem, add_ob, set_ob, hf, q.s42, w1]
              exact round_back (fitsSt v s S).ob (hback _ _) ⟨i + 1, ⟨rfl, Nat.le_succ_of_le nx, by simp only [go_sem, add_ob, set_ob, q.s2], by simp only [go_sem, add_ob, set_ob, q.s3], by simp only [go_sem, add_ob, set_ob, q.s40], by simp only [go_sem, add_ob, set_ob, q.s41], by simp only [go_sem, add_ob, set_ob]; rfl, by omega, next hf⟩⟩ (by simp only [go_sem, add_ob, set_ob]; omega)
          · have b6 : (s.kind == 6) = false := by simp [h6]
            have ha : atF s i = i := by unfold atF; rw [if_neg h6]
            have hy0 : (s.parts.map encS).getD i undefD = encS s.parts[atF s i] := by rw [← hy, ha]
            have c5 : (i : Int) < (s.parts.length : Int) := by omega
            simp only [go_sem, add_ob, set_ob, q.s2, q.s3, q.s40, q.s41, q.s42, b1, hx, c1, c2, fitsSt, e1, e2, e3, e4, b6]
            refine ddraw_mk 8 (by kernel_rfl) ?_
            simp only [go_sem, add_ob, set_ob, q.s3, e1, e2, e3, e4, hy0, c1, c5]
            refine dqgo_mk hcall ?_
            cases hf : fitsV k v.parts[i] s.parts[atF s i] with
            | false =>
              simp only [go_sem, add_ob, set_ob, hf]
              exact ⟨by rw [bad hf]; rfl, (hsub.add hS _).set hS (by omega) _⟩
            | true =>
              simp only [go_sem, add_ob, set_ob, hf, q.s42, w1]
              exact round_back (fitsSt v s S).ob (hback _ _) ⟨i + 1, ⟨rfl, Nat.le_succ_of_le nx, by simp only [go_sem, add_ob, set_ob, q.s2], by simp only [go_sem, add_ob, set_ob, q.s3], by simp only [go_sem, add_ob, set_ob, q.s40], by simp only [go_sem, add_ob, set_ob, q.s41], by simp only [go_sem, add_ob, set_ob]; rfl, by omega, next hf⟩⟩ (by simp only [go_sem, add_ob, set_ob]; omega)
        · have b1 : decide ((i : Int) < (v.parts.length : Int)) = false := by simp; omega
          simp only [go_sem, add_ob, set_ob, q.s2, q.s3, q.s40, q.s41, q.s42, b1]
          refine ⟨?_, fits_sub hS v s nx⟩
          rw [show fitsV (k + 1) v s = true by
            simp only [fitsV, hh, Bool.true_and]
            exact all_of fun j hj => q.ok j (by omega)]
          rfl
    · have hbad : headF v s = (decide (v.kind = s.kind) && ((!decide (v.kind = 4) || decide (v.s ∈ s.words)) && (!decide (v.kind = 5) || decide (v.names = s.words)))) := rfl
      by_cases hk1 : v.kind = s.kind
      · have b1 : (v.kind != s.kind) = false := by simp [hk1]
        by_cases hk4 : v.kind = 4
        · have b4 : (v.kind == 4) = true := by simp [hk4]
          have b5 : (v.kind == 5) = false := by simp [hk4]
          simp only [go_sem, add_ob, set_ob, b1, b4, b5]
          refine DCalls.of_pure (strContains_d .no s.words v.s p3) ?_
          have hb2 : headF v s = decide (v.s ∈ s.words) := by rw [hbad, decide_eq_true hk1, decide_eq_true hk4, decide_eq_false (show ¬ v.kind = 5 by omega)]; simp
          cases hm : decide (v.s ∈ s.words) with
          | false => simp only [go_sem, add_ob, set_ob, b5]; exact ⟨rfl, by simp only [go_sem, add_ob, set_ob], by simp only [go_sem, add_ob, set_ob], by simp only [go_sem, add_ob, set_ob, hb2, hm]⟩
          | true => simp only [go_sem, add_ob, set_ob, b5]; exact ⟨rfl, by simp only [go_sem, add_ob, set_ob], by simp only [go_sem, add_ob, set_ob], by simp only [go_sem, add_ob, set_ob, hb2, hm]⟩
        · have b4 : (v.kind == 4) = false := by simp [hk4]
          by_cases hk5 : v.kind = 5
          · have b5 : (v.kind == 5) = true := by simp [hk5]
            simp only [go_sem, add_ob, set_ob, b1, b4, b5]
            refine DCalls.of_pure (strEqual_d .no .no v.names s.words o5 p3) ?_
            have hb2 : headF v s = decide (v.names = s.words) := by rw [hbad, decide_eq_true hk1, decide_eq_false hk4, decide_eq_true hk5]; simp
            cases hm : decide (v.names = s.words) with
            | false => simp only [go_sem, add_ob, set_ob]; exact ⟨rfl, by simp only [go_sem, add_ob, set_ob], by simp only [go_sem, add_ob, set_ob], by simp only [go_sem, add_ob, set_ob, hb2, hm]⟩
            | true => simp only [go_sem, add_ob, set_ob]; exact ⟨rfl, by simp only [go_sem, add_ob, set_ob], by simp only [go_sem, add_ob, set_ob], by simp only [go_sem, add_ob, set_ob, hb2, hm]⟩
          · have b5 : (v.kind == 5) = false := by simp [hk5]
            have hb2 : headF v s = true := by rw [hbad, decide_eq_true hk1, decide_eq_false hk4, decide_eq_false hk5]; simp
            simp only [go_sem, add_ob, set_ob, b1, b4, b5]
            exact ⟨rfl, by simp only [go_sem, add_ob, set_ob], by simp only [go_sem, add_ob, set_ob], by simp only [go_sem, add_ob, set_ob, hb2]⟩
      · have b1 : (v.kind != s.kind) = true := by simp [hk1]
        have hb2 : headF v s = false := by rw [hbad, decide_eq_false hk1]; rfl
        simp only [go_sem, add_ob, set_ob, b1]
        exact ⟨rfl, by simp only [go_sem, add_ob, set_ob], by simp only [go_sem, add_ob, set_ob], by simp only [go_sem, add_ob, set_ob, hb2]⟩
end Go.Proofs.Ytjjhjhjphhpeiaa

namespace Go.Proofs.Ytjjhjhjphhpeiaa
open Go.RowKit
set_option linter.unusedSimpArgs false
theorem RS.of_right {v : DSch} (h : rightS 5 v = true) : soundS v.depth v = true := by
  have := right_sound 5 v v.depth (Nat.le_refl _)
  rw [h] at this
  exact (Bool.and_eq_true _ _ ▸ this.symm).2
def fitsTop (v : DVal) (s : DSch) : Bool := rightV 5 v && (rightS 5 s && fitsV v.depth v s)
end Go.Proofs.Ytjjhjhjphhpeiaa

namespace Go.Proofs.Ytjjhjhjphhpeiaa
open Go.RowKit
set_option linter.unusedSimpArgs false
theorem schRight_d (v : DSch) (hok : okS v) : DPure Try.prog 53 [encS v] (.v (.bool (rightS 5 v))) := dpure_sch hok (fun _ _ => by kernel_rfl) fun w cs h => schRightP_calls v cs w h
set_option maxRecDepth 200000 in
set_option maxHeartbeats 4000000 in
theorem fitsTop_d (v : DVal) (s : DSch) (hov : okV v) (hos : okS s) : DPure Try.prog 28 [encV v, encS s] (.v (.bool (fitsTop v s))) := by
  refine dpure_of_dwp mixed Try.func28 rfl (fun _ _ => by kernel_rfl) (rs := [.tmp 4]) rfl (by kernel_rfl) trivial (fun S hS => ?_)
  have hsub := fun o o2 => ((St.Sub.refl S).add hS o).add hS o2
  simp only [go_sem, add_ob, set_ob]
  refine DCalls.of_pure (valRight_d v hov) ?_
  cases h1 : rightV 5 v with
  | false =>
    simp only [go_sem, add_ob, set_ob]
    exact ⟨by rw [fitsTop, h1]; rfl, hsub _ _⟩
  | true =>
    simp only [go_sem, add_ob, set_ob]
    refine DCalls.of_pure (schRight_d s hos) ?_
    cases h2 : rightS 5 s with
    | false =>
      simp only [go_sem, add_ob, set_ob]
      exact ⟨by rw [fitsTop, h1, h2]; rfl, hsub _ _⟩
    | true =>
      simp only [go_sem, add_ob, set_ob]
      refine DCalls.of_pure (fits_d v.depth v s (Nat.le_refl _) hov hos (RV.of_right h1) ⟨_, Nat.le_refl _, RS.of_right h2⟩) ?_
      simp only [go_sem, add_ob, set_ob]
      exact ⟨by rw [fitsTop, h1, h2]; rfl, hsub _ _⟩
end Go.Proofs.Ytjjhjhjphhpeiaa

namespace Go.Proofs.Ytjjhjhjphhpeiaa
open Go.RowKit

theorem ob_hit {S : St} {o : Ob} {k : Nat} (h : k = S.next) : (S.add o).ob k = some o := by rw [add_ob, if_pos h]
theorem ob_skip {S : St} {o : Ob} {k : Nat} (h : k ≠ S.next) : (S.add o).ob k = S.ob k := by rw [add_ob, if_neg h]
theorem ob_set {S : St} {o : Ob} {k j : Nat} (h : j = k) : (S.set k o).ob j = some o := by rw [set_ob, if_pos h]
theorem ob_old {S : St} {o : Ob} {k j : Nat} (h : j ≠ k) : (S.set k o).ob j = S.ob j := by rw [set_ob, if_neg h]
theorem drop_next (S : St) (g : Nat) : (S.drop g).next = S.next := Eq.trans (Eq.refl _) (Eq.refl _)
theorem ob_drop {S : St} {g k : Nat} (h : k ≠ g) : (S.drop g).ob k = S.ob k := by simp only [St.drop, if_neg h]
theorem int_zero : ((0 : Nat) : Int) = 0 := Eq.trans (Eq.refl _) (Eq.refl _)
attribute [go_sem] ob_hit ob_skip ob_set ob_old ob_drop drop_next getD_map Int.natCast_nonneg int_zero beq_self_eq_true Int.toNat_zero List.range_zero List.mem_cons List.not_mem_nil or_false forall_eq forall_eq_or_imp false_implies implies_true Option.isSome_some bnd or_true Int.toNat_one Int.le_refl ge_iff_le gt_iff_lt Nat.sub_zero
theorem ddraw_cut {P : Program} {l : List Oper} {R : Fm → St → Prop} {f : Fm} {S : St} (J : Fm → St → Prop) (h : ddraw P l J f S) (hk : ∀ f' S', J f' S' → R f' S') : ddraw P l R f S := by
  rcases h with ⟨n, h1, h2⟩ | ⟨Zs, n, h1, h2, h3⟩
  · exact .inl ⟨n, h1, dhead_mono (fun f' S' hf' => dops_mono hk _ hf') _ h2⟩
  · exact .inr ⟨Zs, n, h1, h2, sAny_mono (fun f' S' hf' => dops_mono hk _ hf') _ _ h3⟩
theorem cells_win_ (k off n c : Nat) : (D.win k off n c).cells = [D.win k off n c] := Eq.trans (Eq.refl _) (Eq.refl _)
theorem okCell_win_ (k off n c : Nat) : (D.win k off n c).okCell = true := Eq.trans (Eq.refl _) (Eq.refl _)
attribute [go_sem] cells_win_ okCell_win_
/-! What is written. -/
def dstOk (W : Nat → Bool) : Option Tmp → Bool
  | none => true
  | some t => W t
def wrOk (W : Nat → Bool) : Code → Bool
  | .region _ ops _ => ops.all fun o => dstOk W o.dst
  | .seq x y => wrOk W x && wrOk W y
  | .cond _ x y => wrOk W x && wrOk W y
  | .block _ c => wrOk W c
  | .loop c => wrOk W c
  | _ => true
/-- f' is f, but for what may be written. -/
def Off (W : Nat → Bool) (f f' : Fm) : Prop := ∀ t, W t = false → f' t = f t
theorem Off.refl (W : Nat → Bool) (f : Fm) : Off W f f := fun _ _ => rfl
theorem Off.trans {W : Nat → Bool} {f g h : Fm} (a : Off W f g) (b : Off W g h) : Off W f h := fun t ht => (b t ht).trans (a t ht)
theorem Off.put {W : Nat → Bool} {f g : Fm} (a : Off W f g) {dst : Option Tmp} (hd : dstOk W dst = true) (d : D) : Off W f (put g dst d) := fun t ht => by
  rw [put_same (fun e => by subst e; simp only [dstOk] at hd; rw [hd] at ht; cases ht)]
  exact a t ht
theorem St.WF.add {S : St} (h : S.WF) (o : Ob) : (S.add o).WF := fun k hk => by
  have hk' : S.next + 1 ≤ k := hk
  simp only [St.add]
  rw [if_neg (by omega)]
  exact h k (by omega)
theorem St.WF.set {S : St} (h : S.WF) {k : Nat} (hk : k < S.next) (o : Ob) : (S.set k o).WF := fun j hj => by
  have hj' : S.next ≤ j := hj
  simp only [St.set]
  rw [if_neg (by omega)]
  exact h j hj'
theorem St.WF.drop {S : St} (h : S.WF) (g : Nat) : (S.drop g).WF := fun j hj => by
  have hj' : S.next ≤ j := hj
  simp only [St.drop]
  split
  · rfl
  · exact h j hj'
theorem St.WF.leave {S : St} (h : S.WF) (o : Own) : (S.leave o).WF := by
  cases o with
  | row g => exact h.drop g
  | no => exact h
  | full => exact h
theorem St.WF.grow {S : St} (h : S.WF) (o : Own) (e : TypeId) (n : Nat) : (S.grow o e n).WF := (h.leave o).add _
theorem St.WF.keep {S : St} (h : S.WF) {n : Nat} (hn : S.next ≤ n) : (St.mk n S.ob).WF := fun k hk => h k (Nat.le_trans hn hk)
theorem St.Sub.keep {S T : St} (h : S.Sub T) {n : Nat} (hn : T.next ≤ n) : S.Sub ⟨n, T.ob⟩ := ⟨Nat.le_trans h.next hn, h.ob⟩
theorem St.Sub.trans {A B C : St} (h : A.Sub B) (k : B.Sub C) : A.Sub C := ⟨Nat.le_trans h.next k.next, fun i o hi => k.ob i o (h.ob i o hi)⟩
theorem DCalls.wf {P : Program} {g : FuncId} {args : List D} {S : St} {K : D → St → Prop} (h : DCalls P g args S K) : DCalls P g args S fun d S' => K d S' ∧ S'.WF := fun base η w vs hM hr => by
  rcases h base η w vs hM hr with ⟨h1, h2⟩ | ⟨d, S', η', v, w', h1, h2, h3, h4⟩
  · exact .inl ⟨h1, h2.mono fun _ _ ⟨d, S', η', v, h1, h2, h3, h4⟩ => ⟨d, S', η', v, ⟨h1, h4.mem.fresh⟩, h2, h3, h4⟩⟩
  · exact .inr ⟨d, S', η', v, w', h1, ⟨h2, h4.mem.fresh⟩, h3, h4⟩
theorem DRun.wf {P : Program} {run : List Value → Sem Value} {args : List D} {S : St} {K : D → St → Prop} (h : DRun P run args S K) : DRun P run args S fun d S' => K d S' ∧ S'.WF := fun base η w vs hM hr => by
  obtain ⟨d, S', η', v, w', h1, h2, h3, h4⟩ := h base η w vs hM hr
  exact ⟨d, S', η', v, w', h1, ⟨h2, h4.mem.fresh⟩, h3, h4⟩
theorem onVal_and {o : Option (Prop × D)} {K : D → Prop} {p : Prop} (hp : p) (h : onVal o K) : onVal o fun d => K d ∧ p := onVal_mono (fun _ hd => ⟨hd, hp⟩) h
section
variable {P : Program} {W : Nat → Bool}
theorem dop_more {f : Fm} {S : St} {ty : TypeId} {op : Op} {K : D → St → Prop} (hS : S.WF) (ho : dop P f S ty op K) : dop P f S ty op fun d S' => K d S' ∧ S'.WF := by
  cases op with
  | alloc t => simp only [dop] at *; exact ⟨ho.1, ho.2, hS.add _⟩
  | box t x => simp only [dop] at *; exact ⟨ho.1, ho.2, hS.add _⟩
  | store t x y =>
    simp only [dop] at *
    split at ho
    · split at ho
      · rename_i k off _ _ t' cs hk
        exact ⟨ho.1, ho.2.1, ho.2.2.1, ho.2.2.2.1, ho.2.2.2.2, hS.set (hS.lt hk) _⟩
      · exact ho
    · exact ho
  | call cl =>
    obtain ⟨callee, args, ts⟩ := cl
    cases callee with
    | value x =>
      simp only [dop] at *
      split at ho
      · exact ho.wf
      · exact ho
    | invoke r m =>
      simp only [dop] at *
      split at ho
      · obtain ⟨g, d', h1, h2⟩ := ho
        exact ⟨g, d', h1, h2.wf⟩
      · exact ho
    | builtin b =>
      by_cases hb : b = .append
      · subst hb
        simp only [dop] at *
        split at ho
        · split at ho
          · rcases ho with ⟨k1, k2, k3, k4, k5, k6, k7, k8⟩ | ⟨k1, k2, k3, k4, k5, k6, k7, k8, k9, k10⟩ | ho
            · exact .inl ⟨k1, k2, k3, k4, k5, k6, k7, k8, hS.grow _ _ _⟩
            · exact .inr (.inl ⟨k1, k2, k3, k4, k5, k6, k7, k8, k9, fun c zs e1 e2 => ⟨k10 c zs e1 e2, hS.add _⟩⟩)
            · exact .inr (.inr ho.wf)
          · exact ho
        · exact ho.wf
        · exact ho
      · cases b <;> first | exact absurd rfl hb | (simp only [dop] at *; exact onVal_and hS ho) | exact DRun.wf ho
  | makeSlice t x y => exact DRun.wf ho
  | typeAssert x xt t ok => exact DRun.wf ho
  | lookup t x i ok => exact DRun.wf ho
  | makeMap t r => exact DRun.wf ho
  | mapUpdate t m k x => exact (DRun.wf ho).mono fun d S' hd => ⟨hd.1.1, hd.1.2, hd.2⟩
  | insert t m k x => exact (DRun.wf ho).mono fun d S' hd => ⟨hd.1.1, hd.1.2, hd.2⟩
  | _ => simp only [dop] at *; exact onVal_and hS ho
theorem dops_more {ops : Array Oper} {Q : Fm → St → Prop} : ∀ (l : List Oper), (∀ o ∈ l, dstOk W o.dst = true) → ∀ {f : Fm} {S : St}, S.WF → dops P ops Q l f S → dops P ops (fun f' S' => Q f' S' ∧ S'.WF ∧ Off W f f') l f S
  | [], _, f, S, hS, h => ⟨h, hS, Off.refl W f⟩
  | o :: l, hw, f, S, hS, h => by
    unfold dops at *
    have h1 := hw o (by simp)
    have h2 : ∀ o' ∈ l, dstOk W o'.dst = true := fun o' ho => hw o' (by simp [ho])
    refine dwanted_mono (fun hy => ?_) (fun hn => ?_) h
    · refine dop_mono (fun d S' hk => ?_) (dop_more hS hy)
      refine dops_mono (fun f' S'' hq => ?_) l (dops_more l h2 hk.2 hk.1)
      exact ⟨hq.1, hq.2.1, (Off.put (Off.refl W f) h1 d).trans hq.2.2⟩
    · refine dops_mono (fun f' S'' hq => ?_) l (dops_more l h2 hS hn)
      exact ⟨hq.1, hq.2.1, (Off.put (Off.refl W f) h1 _).trans hq.2.2⟩
theorem dhead_more {ops : Array Oper} {S : St} (hS : S.WF) {Q : Fm → St → Prop} : ∀ (l : List Oper), (∀ o ∈ l, dstOk W o.dst = true) → ∀ {f : Fm} {u : Option Ob}, dhead P ops S Q l f u → dhead P ops S (fun f' S' => Q f' S' ∧ S'.WF ∧ Off W f f') l f u
  | [], _, f, u, h => ⟨h, (by cases u with | none => exact hS | some b => exact hS.add b), Off.refl W f⟩
  | o :: l, hw, f, u, h => by
    unfold dhead at *
    have h1 := hw o (by simp)
    have h2 : ∀ o' ∈ l, dstOk W o'.dst = true := fun o' ho => hw o' (by simp [ho])
    have go : ∀ (d : D) (u' : Option Ob), dhead P ops S Q l (put f o.dst d) u' → dhead P ops S (fun f' S' => Q f' S' ∧ S'.WF ∧ Off W f f') l (put f o.dst d) u' := fun d u' hd =>
      dhead_mono (fun f' S' hq => ⟨hq.1, hq.2.1, (Off.put (Off.refl W f) h1 d).trans hq.2.2⟩) l (dhead_more hS l h2 hd)
    split at h
    · exact hop_mono (fun d u' hd => go d u' hd) h
    · exact dwanted_mono (fun hq => dquiet_mono (fun d hd => go d u hd) hq) (go _ u) h
theorem sAny_more {ops : Array Oper} {md : Region.Mode} {Zs : St → Prop} {Q : Fm → St → Prop} (hw : ∀ (j : Nat) (o : Oper), ops[j]? = some o → dstOk W o.dst = true) : ∀ (fuel : Nat) (L : Array Bool) {f : Fm} {S : St}, S.WF → sAny P md ops Zs Q fuel L f S → sAny P md ops Zs (fun f' S' => Q f' S' ∧ S'.WF ∧ Off W f f') fuel L f S
  | 0, _, f, _, hS, k => ⟨k.1, k.2, hS, Off.refl W f⟩
  | n + 1, L, f, S, hS, k => by
    refine ⟨fun e => ⟨k.1 e, hS, Off.refl W f⟩, fun i hi => ?_⟩
    have h2 := k.2 i hi
    unfold sOp at *
    cases ho : ops[i]? with
    | none => rw [ho] at h2; exact sAny_more hw n _ hS h2
    | some o =>
      rw [ho] at h2
      have h1 := hw i o ho
      have go : ∀ d (S' : St), S'.WF → sAny P md ops Zs Q n (L.setIfInBounds i true) (put f o.dst d) S' → sAny P md ops Zs (fun f' S' => Q f' S' ∧ S'.WF ∧ Off W f f') n (L.setIfInBounds i true) (put f o.dst d) S' := fun d S' hS' hk =>
        sAny_mono (fun f' S' hq => ⟨hq.1, hq.2.1, (Off.put (Off.refl W f) h1 d).trans hq.2.2⟩) _ _ (sAny_more hw n _ hS' hk)
      rcases h2 with ⟨d, e1, e2⟩ | ⟨e1, e2⟩
      · exact .inl ⟨d, e1, go d S hS e2⟩
      · exact .inr ⟨e1, dop_mono (fun d S' hk => ⟨hk.1.1, go d S' hk.2 hk.1.2⟩) (dop_more hS e2)⟩
theorem dwp_more : ∀ (c : Code) {Q : DQ} {f : Fm} {S : St}, wrOk W c = true → S.WF → dwp P c Q f S → dwp P c (fun e f' S' => Q e f' S' ∧ S'.WF ∧ Off W f f') f S := by
  intro c
  induction c with
  | region id ops draw =>
    intro Q f S hw hS h
    have hw' : ∀ o ∈ ops.toList, dstOk W o.dst = true := fun o ho => Array.all_eq_true_iff_forall_mem.1 hw o (by simpa using ho)
    cases draw with
    | false => exact dops_more _ hw' hS h
    | true =>
      rcases h with ⟨n, h1, h2⟩ | ⟨Zs, n, h1, h2, h3⟩
      rotate_left
      · refine .inr ⟨Zs, n, h1, h2, sAny_mono (fun f' S' hq => ?_) _ _ (sAny_more (W := W) (fun j o ho => hw' o (by
          have := List.mem_of_getElem? (show (ops.toList.take n)[j]? = some o by simpa using ho)
          exact List.mem_of_mem_take this)) _ _ hS h3)⟩
        refine dops_mono (fun f'' S'' hk => ?_) _ (dops_more (W := W) _ (fun o ho => hw' o (List.mem_of_mem_drop ho)) hq.2.1 hq.1)
        exact ⟨hk.1, hk.2.1, hq.2.2.trans hk.2.2⟩
      refine .inl ⟨n, h1, dhead_mono (fun f' S' hq => ?_) _ (dhead_more (W := W) hS _ (fun o ho => hw' o (List.mem_of_mem_take ho)) h2)⟩
      refine dops_mono (fun f'' S'' hk => ?_) _ (dops_more (W := W) _ (fun o ho => hw' o (List.mem_of_mem_drop ho)) hq.2.1 hq.1)
      exact ⟨hk.1, hk.2.1, hq.2.2.trans hk.2.2⟩
  | seq x y ihx ihy =>
    intro Q f S hw hS h
    simp only [wrOk, Bool.and_eq_true] at hw
    refine dwp_mono x (fun e f2 S2 hq => ?_) (ihx hw.1 hS h)
    cases e with
    | normal =>
      refine dwp_mono y (fun e3 f3 S3 h3 => ?_) (ihy (Q := Q) hw.2 hq.2.1 hq.1)
      exact ⟨h3.1, h3.2.1, hq.2.2.trans h3.2.2⟩
    | exit i => exact hq
    | ret => exact hq
  | cond g x y ihx ihy =>
    intro Q f S hw hS h
    simp only [wrOk, Bool.and_eq_true] at hw
    unfold dwp at h ⊢
    generalize ev f g = u at h ⊢
    cases u with
    | v u => cases u with
      | bool b => exact ⟨fun e => ihx hw.1 hS (h.1 e), fun e => ihy hw.2 hS (h.2 e)⟩
      | _ => exact h
    | _ => exact h
  | block id c ih =>
    intro Q f S hw hS h
    refine dwp_mono c (fun e f2 S2 hq => ?_) (ih hw hS h)
    cases e with
    | normal => exact hq
    | ret => exact hq
    | exit i =>
      simp only [DQ.block] at *
      cases hb : Nat.beq i id with
      | true => rw [hb] at hq; exact hq
      | false => rw [hb] at hq; exact hq
  | loop c ih =>
    intro Q f S hw hS h
    obtain ⟨I, μ, h0, hr⟩ := h
    refine ⟨fun g T => I g T ∧ T.WF ∧ Off W f g, μ, ⟨h0, hS, Off.refl W f⟩, fun g T ⟨hI, hT, hg⟩ => ?_⟩
    refine dwp_mono c (fun e f2 S2 hq => ?_) (ih hw hT (hr g T hI))
    obtain ⟨hq, hwf, hoff⟩ := hq
    cases e with
    | normal =>
      obtain ⟨S'', ⟨s1, s2⟩, s3, s4⟩ := hq
      refine ⟨S'', ⟨s1, s2⟩, ⟨s3, fun k hk => ?_, hg.trans hoff⟩, s4⟩
      cases ho : S''.ob k with
      | none => rfl
      | some o => have := s2 k o ho; rw [hwf k (by omega)] at this; cases this
    | exit i => exact ⟨hq, hwf, hg.trans hoff⟩
    | ret => exact ⟨hq, hwf, hg.trans hoff⟩
  | skip => intro Q f S _ hS k; exact ⟨k, hS, Off.refl W f⟩
  | label l => intro Q f S _ hS k; exact ⟨k, hS, Off.refl W f⟩
  | exit i => intro Q f S _ hS k; exact ⟨k, hS, Off.refl W f⟩
  | ret => intro Q f S _ hS k; exact ⟨k, hS, Off.refl W f⟩
  | rangeFunc x ps aa b _ _ => intro Q f S _ _ k; exact k.elim
  | scope c _ => intro Q f S _ _ k; exact k.elim
  | goto l => intro Q f S _ _ k; exact k.elim
  | refuse s => intro Q f S _ _ k; exact k.elim
/-- A round's end, by a number that goes down. -/
def dnextR (I : Nat → Fm → St → Prop) (m : Nat) (f' : Fm) (S' : St) : Prop := ∃ (m' : Nat) (ob : Nat → Option Ob), m' < m ∧ (∀ k o, ob k = some o → S'.ob k = some o) ∧ I m' f' ⟨S'.next, ob⟩
theorem least_of {p : Nat → Prop} (h : ∃ n, p n) : ∃ n, p n ∧ ∀ m, p m → n ≤ m := by
  obtain ⟨n, hn⟩ := h
  induction n using Nat.strongRecOn with
  | _ n ih =>
    by_cases hx : ∃ m, m < n ∧ p m
    · obtain ⟨m, h1, h2⟩ := hx
      exact ih m h1 h2
    · refine ⟨n, hn, fun m hm => ?_⟩
      rcases Nat.lt_or_ge m n with h1 | h1
      · exact absurd ⟨m, h1, hm⟩ hx
      · exact h1
theorem dloop_down {c : Code} {Q : DQ} {f : Fm} {S : St} (W : Nat → Bool) (hW : wrOk W c = true) (hS : S.WF) (I : Nat → Fm → St → Prop) (m : Nat) (h0 : I m f S)
    (hr : ∀ m g T, T.WF → Off W f g → I m g T → dwp P c (DQ.then (dnextR I m) Q) g T) : DLoop (dwp P c) Q f S := by
  classical
  let J : Fm → St → Nat → Prop := fun g T m => I m g T ∧ T.WF ∧ Off W f g
  refine ⟨fun g T => ∃ m, J g T m, fun g T => if h : ∃ m, J g T m then Classical.choose (least_of h) else 0, ⟨m, h0, hS, Off.refl W f⟩, fun g T hI => ?_⟩
  have hf := (Classical.choose_spec (least_of hI)).1
  obtain ⟨h1, h2, h3⟩ := hf
  refine dwp_mono c (fun e f2 S2 hq => ?_) (dwp_more (W := W) c hW h2 (hr _ g T h2 h3 h1))
  obtain ⟨hq, hwf, hoff⟩ := hq
  cases e with
  | normal =>
    obtain ⟨m', ob, k1, k2, k3⟩ := hq
    have hw2 : (St.mk S2.next ob).WF := fun k hk => by
      cases ho : ob k with
      | none => exact ho
      | some o => have := k2 k o ho; rw [hwf k hk] at this; cases this
    have hj : J f2 ⟨S2.next, ob⟩ m' := ⟨k3, hw2, h3.trans hoff⟩
    refine ⟨⟨S2.next, ob⟩, ⟨rfl, k2⟩, ⟨m', hj⟩, ?_⟩
    show (if h : ∃ m, J f2 ⟨S2.next, ob⟩ m then Classical.choose (least_of h) else 0) < (if h : ∃ m, J g T m then Classical.choose (least_of h) else 0)
    rw [dif_pos ⟨m', hj⟩, dif_pos hI]
    exact Nat.lt_of_le_of_lt ((Classical.choose_spec (least_of ⟨m', hj⟩)).2 m' hj) k1
  | exit i => exact hq
  | ret => exact hq
/-- A round's end, by an index that goes up. -/
def dnextU (I : Nat → Fm → St → Prop) (n i : Nat) (f' : Fm) (S' : St) : Prop := i < n ∧ ∃ ob : Nat → Option Ob, (∀ k o, ob k = some o → S'.ob k = some o) ∧ I (i + 1) f' ⟨S'.next, ob⟩
theorem dloop_up {c : Code} {Q : DQ} {f : Fm} {S : St} (W : Nat → Bool) (hW : wrOk W c = true) (hS : S.WF) (n : Nat) (I : Nat → Fm → St → Prop) (h0 : I 0 f S)
    (hr : ∀ i g T, T.WF → Off W f g → I i g T → dwp P c (DQ.then (dnextU I n i) Q) g T) : DLoop (dwp P c) Q f S := by
  refine dloop_down W hW hS (fun m g T => ∃ i, m = n - i ∧ I i g T) (n - 0) ⟨0, rfl, h0⟩ fun m g T hT hg ⟨i, hm, hI⟩ => ?_
  subst hm
  refine dwp_mono c (fun e f2 S2 hq => ?_) (hr i g T hT hg hI)
  cases e with
  | normal =>
    obtain ⟨k1, ob, k2, k3⟩ := hq
    exact ⟨n - (i + 1), ob, by omega, k2, i + 1, rfl, k3⟩
  | exit i => exact hq
  | ret => exact hq
/-- The names that were there stay as they were. -/
def dnextS (S : St) (I : Nat → Fm → Prop) (n i : Nat) (f' : Fm) (S' : St) : Prop := i < n ∧ S.Sub S' ∧ I (i + 1) f'
theorem dloop_st {c : Code} {Q : DQ} {f : Fm} {S : St} (W : Nat → Bool) (hW : wrOk W c = true) (hS : S.WF) (n : Nat) (I : Nat → Fm → Prop) (h0 : I 0 f)
    (hr : ∀ i g tn, S.next ≤ tn → (St.mk tn S.ob).WF → Off W f g → I i g → dwp P c (DQ.then (dnextS S I n i) Q) g ⟨tn, S.ob⟩) : DLoop (dwp P c) Q f S := by
  refine dloop_up W hW hS n (fun i g T => S.next ≤ T.next ∧ T.ob = S.ob ∧ I i g) ⟨Nat.le_refl _, rfl, h0⟩ fun i g T hT hg ⟨h1, h2, h3⟩ => ?_
  obtain ⟨tn, tob⟩ := T
  have h2' : tob = S.ob := h2
  subst h2'
  refine dwp_mono c (fun e f2 S2 hq => ?_) (hr i g tn h1 hT hg h3)
  cases e with
  | normal => exact ⟨hq.1, S.ob, hq.2.1.ob, hq.2.1.next, rfl, hq.2.2⟩
  | exit i => exact hq
  | ret => exact hq
/-- One variable changes from round to round. -/
def dnextV (S : St) (v : Nat) (b : Nat → Ob) (I : Nat → Fm → Prop) (n i : Nat) (f' : Fm) (S' : St) : Prop := i < n ∧ (S.set v (b (i + 1))).Sub S' ∧ I (i + 1) f'
theorem dloop_var {c : Code} {Q : DQ} {f : Fm} {S : St} (W : Nat → Bool) (hW : wrOk W c = true) (hS : S.WF) (n : Nat) (v : Nat) (b : Nat → Ob) (hv : S.ob v = some (b 0)) (I : Nat → Fm → Prop) (h0 : I 0 f)
    (hr : ∀ i g tn, S.next ≤ tn → (St.mk tn (S.set v (b i)).ob).WF → Off W f g → I i g → dwp P c (DQ.then (dnextV S v b I n i) Q) g ⟨tn, (S.set v (b i)).ob⟩) : DLoop (dwp P c) Q f S := by
  have hb : (S.set v (b 0)).ob = S.ob := by
    funext k
    simp only [St.set]
    split
    · rename_i h; rw [h, hv]
    · rfl
  refine dloop_up W hW hS n (fun i g T => S.next ≤ T.next ∧ T.ob = (S.set v (b i)).ob ∧ I i g) ⟨Nat.le_refl _, hb.symm, h0⟩ fun i g T hT hg ⟨h1, h2, h3⟩ => ?_
  obtain ⟨tn, tob⟩ := T
  have h2' : tob = (S.set v (b i)).ob := h2
  subst h2'
  refine dwp_mono c (fun e f2 S2 hq => ?_) (hr i g tn h1 hT hg h3)
  cases e with
  | normal => exact ⟨hq.1, (S.set v (b (i + 1))).ob, hq.2.1.ob, hq.2.1.next, rfl, hq.2.2⟩
  | exit i => exact hq
  | ret => exact hq
theorem St.Sub.upd {S X : St} {v tn : Nat} {b B B' : Ob} (hn : S.next ≤ tn) (hB : B' = B) (h : St.Sub ⟨tn, (S.set v b).ob⟩ X) : (S.set v B').Sub (X.set v B) := ⟨Nat.le_trans hn h.next, fun k o hk => by
  subst hB
  simp only [set_ob] at *
  split
  · rename_i e; rw [if_pos e] at hk; exact hk
  · rename_i e
    rw [if_neg e] at hk
    refine h.ob k o ?_
    show (S.set v b).ob k = _
    rw [set_ob, if_neg e]
    exact hk⟩
/-! A row that grows. -/
def rowOf (S : St) (own : Own) (e : TypeId) (n : Nat) : Nat → Option Ob := fun k => match own with
  | .row g => if k = g then some (.row e n) else S.ob k
  | _ => S.ob k
def RowOk (lo : Nat) (S : St) (own : Own) (n : Nat) : Prop := own = .full ∨ ∃ g, own = .row g ∧ lo ≤ g ∧ S.ob g = none ∧ g < n
theorem rowOf_some {lo : Nat} {S : St} {own : Own} {n : Nat} (h : RowOk lo S own n) {e : TypeId} {m k : Nat} {o : Ob} (hk : S.ob k = some o) : rowOf S own e m k = some o := by
  rcases h with rfl | ⟨g, rfl, _, h1, _⟩
  · exact hk
  · have : k ≠ g := fun e => by subst e; rw [h1] at hk; cases hk
    show (if k = g then _ else _) = _
    rw [if_neg this]
    exact hk
theorem RowOk.sub {lo : Nat} {S : St} {own : Own} {e : TypeId} {m n : Nat} (h : RowOk lo S own n) (hn : S.next ≤ n) : S.Sub ⟨n, rowOf S own e m⟩ := ⟨hn, fun k o hk => rowOf_some h hk⟩
theorem leave_next (S : St) (own : Own) : (S.leave own).next = S.next := by cases own <;> rfl
/-- The next name, whatever was done. -/
theorem nx : (∀ (S : St) (o : Ob), (S.add o).next = S.next + 1) ∧ (∀ (S : St) (k : Nat) (o : Ob), (S.set k o).next = S.next) ∧ (∀ (S : St) (own : Own) (e : TypeId) (n : Nat), (S.grow own e n).next = S.next + 1) ∧ (∀ (S : St) (own : Own), (S.leave own).next = S.next) ∧ (∀ (S : St) (g : Nat), (S.drop g).next = S.next) ∧ (∀ (α β : Type) (f : α → β) (l : List α), (l.map f).length = l.length) :=
  ⟨add_next, set_next, grow_next, leave_next, drop_next, fun _ _ f l => List.length_map ..⟩
abbrev RowOk.lo {lo : Nat} {S : St} {own : Own} {n : Nat} (_ : RowOk lo S own n) : Nat := lo
end
end Go.Proofs.Ytjjhjhjphhpeiaa

namespace Go.Proofs.Ytjjhjhjphhpeiaa
open Go.RowKit

mutual
def D.thaw (k : Nat) (es : List D) : D → D
  | .agg cs => .agg (thawL k es cs)
  | .tup cs => .tup (thawL k es cs)
  | .win j off n c => bif Nat.beq j k && (Nat.beq off 0 && Nat.beq n es.length) then .sl .no es else .win j off n c
  | .v x => .v x
  | .fn f fs cs => .fn f fs cs
  | .ifc t d => .ifc t d
  | .loc j o => .loc j o
  | .rd cs o => .rd cs o
  | .sl o l => .sl o l
def thawL (k : Nat) (es : List D) : List D → List D
  | [] => []
  | d :: l => d.thaw k es :: thawL k es l
end
section
variable {P : Program} {base : Nat} {S : St} {η : Names} {w : World}
theorem win_cells (hM : Mem P base S η w) {k b : Nat} {e : TypeId} {es zs : List D} (hk : S.ob k = some (.box e (flat es ++ zs))) (hb : η k = some (some b)) (hw : ∀ d ∈ es, d.width = szOf P e) {X : Nat → Nat → Prop} (hX : ∀ i, X b i) {w' : World} {η' : Names} (hE : w' = w) (hK : ∀ {l : List D} {vs : List Value}, RepL P w η (Fix P S η) l vs → RepL P w' η' X l vs) : RepE P w' η' X (szOf P e) es b 0 := by
  subst hE
  obtain ⟨vs, h1, h2, h3⟩ := hM.box k e _ b hk hb
  refine RepE.of_flat hw ?_
  have h4 := RepC.mk (b := b) (o := 0) (hK h2) (fun j v hj => by
    rw [Nat.zero_add]
    have : w'.cell? ⟨b, j, none⟩ = vs.toArray[j]? := by simp [World.cell?, h1]
    rw [this]; simpa using hj) (fun j _ => hX _) h3
  exact h4.left.1
mutual
theorem Rep.thaw (hM : Mem P base S η w) {k : Nat} {e : TypeId} {es zs : List D} (hk : es = [] ∨ S.ob k = some (.box e (flat es ++ zs))) (hz : 0 < szOf P e) (hw : ∀ d ∈ es, d.width = szOf P e) : ∀ {d : D} {v : Value}, Rep P w η (Fix P S η) d v → Rep P w η (Fix P (S.drop k) η) (d.thaw k es) v
  | .v x, v, h => by simp only [D.thaw]; exact (goes_drop hM k).rep h
  | .fn f fs cs, v, h => by simp only [D.thaw]; exact (goes_drop hM k).rep h
  | .ifc t d, v, h => by simp only [D.thaw]; exact (goes_drop hM k).rep h
  | .loc j o, v, h => by simp only [D.thaw]; exact (goes_drop hM k).rep h
  | .rd cs o, v, h => by simp only [D.thaw]; exact (goes_drop hM k).rep h
  | .sl o l, v, h => by simp only [D.thaw]; exact (goes_drop hM k).rep h
  | .agg cs, v, h => by
    simp only [D.thaw, Rep] at *
    obtain ⟨vs, h1, h2, h3⟩ := h
    exact ⟨vs, h1, RepL.thaw hM hk hz hw h2, h3⟩
  | .tup cs, v, h => by
    simp only [D.thaw, Rep] at *
    obtain ⟨vs, h1, h2⟩ := h
    exact ⟨vs, h1, RepL.thaw hM hk hz hw h2⟩
  | .win j off n c, v, h => by
    cases hb : (Nat.beq j k && (Nat.beq off 0 && Nat.beq n es.length)) with
    | false =>
      have e1 : (D.win j off n c).thaw k es = .win j off n c := by simp only [D.thaw, hb, cond_false]
      rw [e1]
      exact (goes_drop hM k).rep h
    | true =>
      rw [Bool.and_eq_true, Bool.and_eq_true] at hb
      have e1 : j = k := Nat.eq_of_beq_eq_true hb.1
      have e4 : off = 0 := Nat.eq_of_beq_eq_true hb.2.1
      have e2 : n = es.length := Nat.eq_of_beq_eq_true hb.2.2
      subst e1 e2 e4
      have e3 : (D.win j 0 es.length c).thaw j es = .sl .no es := by simp [D.thaw]
      rw [e3]
      obtain ⟨A, h2, h3, h4, h1⟩ := h.win_slice
      simp only [Rep]
      refine ⟨A, c, h2, h3, h4, trivial, fun hpos => ?_⟩
      rcases hk with hk | hk
      · rw [hk] at hpos; exact absurd hpos (by simp)
      rcases h1 with ⟨b, h1, rfl⟩ | ⟨_, h1, _⟩
      rotate_left
      · omega
      refine ⟨b, 0, szOf P e, rfl, hz, ?_⟩
      refine win_cells hM hk h1 hw (fun i k' o hk' ho => ?_) rfl (fun hr => (goes_drop hM j).repL hr)
      by_cases hkj : k' = j
      · subst hkj
        simp [St.drop] at ho
      · simp only [St.drop, if_neg hkj] at ho
        exact absurd (hM.inj k' j b hk' h1 (by rw [ho]; rfl) (by rw [hk]; rfl)) hkj
theorem RepL.thaw (hM : Mem P base S η w) {k : Nat} {e : TypeId} {es zs : List D} (hk : es = [] ∨ S.ob k = some (.box e (flat es ++ zs))) (hz : 0 < szOf P e) (hw : ∀ d ∈ es, d.width = szOf P e) : ∀ {l : List D} {vs : List Value}, RepL P w η (Fix P S η) l vs → RepL P w η (Fix P (S.drop k) η) (thawL k es l) vs
  | [], vs, h => by simp only [thawL, RepL] at *; exact h
  | d :: l, vs, h => by
    simp only [thawL, RepL] at *
    obtain ⟨x, xs, h1, h2, h3⟩ := h
    exact ⟨x, xs, h1, Rep.thaw hM hk hz hw h2, RepL.thaw hM hk hz hw h3⟩
end
/-- The variable behind a slice is given up. -/
theorem thaw_win {P : Program} {S : St} {k : Nat} {e : TypeId} {es zs : List D} (hk : S.ob k = some (.box e (flat es ++ zs))) (hz : 0 < szOf P e) (hw : ∀ d ∈ es, d.width = szOf P e) {d d1 : D} (hd : d.thaw k es = d1) : Thaw P S d (S.drop k) d1 := fun base η w v hM hr =>
  ⟨η, goes_drop hM k, hd ▸ Rep.thaw hM (.inr hk) hz hw hr⟩
end
/-- What lies behind an owned slice: a variable, or (where there is no room) nothing. -/
def ownOb (e : TypeId) (es zs : List D) (c : Nat) : Ob := bif Nat.beq c 0 then .row e 0 else .box e (flat es ++ zs)
theorem ownOb_box {e : TypeId} {es zs : List D} {c : Nat} (h : 0 < c) : ownOb e es zs c = .box e (flat es ++ zs) := by
  cases c with
  | zero => omega
  | succ c => rfl
theorem ownOb_nil (e : TypeId) (es zs : List D) : ownOb e es zs 0 = .row e 0 := rfl
theorem thaw_own {P : Program} {S : St} {k c : Nat} {e : TypeId} {es zs : List D} (hk : S.ob k = some (ownOb e es zs c)) (hc : es.length ≤ c) (hz : 0 < szOf P e) (hw : ∀ d ∈ es, d.width = szOf P e) {d d1 : D} (hd : d.thaw k es = d1) : Thaw P S d (S.drop k) d1 := fun base η w v hM hr => by
  refine ⟨η, goes_drop hM k, hd ▸ Rep.thaw (zs := zs) hM ?_ hz hw hr⟩
  rcases Nat.eq_zero_or_pos c with rfl | h
  · exact .inl (List.eq_nil_of_length_eq_zero (by omega))
  · rw [ownOb_box h] at hk
    exact .inr hk
/-- A call whose arguments may say more than its contract asks. -/
theorem DPure.weak {P : Program} {g : FuncId} {args args' : List D} {d : D} (k : DPure P g args' d) (h : frzL args = args') : DPure P g args d := fun S base η w vs hM hr => k S base η w vs hM (h ▸ RepL.frz hr)
theorem flat_cons (d : D) (l : List D) : flat (d :: l) = d.cells ++ flat l := by simp [flat]
/-- An element is overwritten. -/
theorem splice_flat : ∀ {es : List D} {zs : List D} {z : Nat} (i : Nat) {y : D}, i < es.length → (∀ d ∈ es, d.width = z) → y.width = z → splice (flat es ++ zs) (0 + i * z) y.cells = flat (es.set i y) ++ zs
  | [], _, _, i, _, h, _, _ => by simp at h
  | d :: es, zs, z, 0, y, _, hw, hy => by
    have h1 : d.cells.length = z := hw d (by simp)
    have h2 : y.cells.length = z := hy
    simp only [List.set_cons_zero, flat_cons, splice, Nat.zero_mul, Nat.add_zero, List.take_zero, List.nil_append, Nat.zero_add, h2, List.append_assoc]
    rw [List.drop_append, List.drop_of_length_le (by omega), h1, Nat.sub_self, List.drop_zero, List.nil_append]
  | d :: es, zs, z, i + 1, y, hi, hw, hy => by
    have h1 : d.cells.length = z := hw d (by simp)
    have ih := splice_flat (es := es) (zs := zs) (z := z) i (y := y) (by simpa using hi) (fun d' hd' => hw d' (by simp [hd'])) hy
    simp only [List.set_cons_succ, flat_cons, List.append_assoc]
    rw [← ih]
    simp only [splice, Nat.zero_add]
    have e1 : (i + 1) * z = z + i * z := by rw [Nat.add_mul]; omega
    rw [e1, List.take_append, List.drop_append, h1]
    rw [List.take_of_length_le (l := d.cells) (by omega), List.drop_of_length_le (l := d.cells) (by omega)]
    rw [show z + i * z - z = i * z by omega, show z + i * z + y.cells.length - z = i * z + y.cells.length by omega]
    simp [List.append_assoc]
theorem splice_flat' {es zs : List D} {z i : Nat} {y : D} (hi : i < es.length) (hw : ∀ d ∈ es, d.width = z) (hy : y.width = z) : List.take (i * z) (flat es ++ zs) ++ y.cells ++ List.drop (i * z + z) (flat es ++ zs) = flat (es.set i y) ++ zs := by
  have := splice_flat (zs := zs) i hi hw hy
  rw [← this]
  simp only [splice, Nat.zero_add]
  rw [show y.cells.length = z from hy]
theorem dquietR_of {P : Program} {f : Fm} {S : St} {ty : TypeId} {op : Op} {d : D} (h : dquiet P f S ty op fun d' => d' = d) : dquietR P f S ty op d := by
  obtain ⟨d', h1, rfl⟩ := dquiet_iff.1 h
  exact h1
end Go.Proofs.Ytjjhjhjphhpeiaa
