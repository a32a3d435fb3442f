/- Texts of a proof, part 5. Conditions: none. -/
import Derived.Test.YtbcabejdchkpmaaDoorE4
import Derived.Test.YtbcabejdchkpmaaDoorProg
import Derived.KernelRfl
import Derived.Test.YtbcabejdchkpmaaDoorRows
import Derived.ChangeSame
import Derived.ChangeVars
import Derived.JoinedOf
import Derived.LaidLaws
import Derived.LaidHandle
import Derived.Stop.Joined
set_option linter.unusedVariables false
set_option linter.unusedSimpArgs false
namespace Go.Proofs.YtbcabejdchkpmaaDoor

@[go_sem] theorem okT_1 : okT Tryd.prog 1 = true := by kernel_rfl
@[go_sem] theorem szOf_1 : szOf Tryd.prog 1 = 1 := by kernel_rfl
@[go_sem] theorem aggT_1 : aggT Tryd.prog 1 = false := by kernel_rfl
@[go_sem] theorem undS_1 : (Tryd.prog.underlying 1).isSome = true := by kernel_rfl
@[go_sem] theorem infS_1 : (Tryd.prog.info? 1).isSome = true := by kernel_rfl
@[go_sem] theorem ifaceT_1 : ifaceT Tryd.prog 1 = false := by kernel_rfl
@[go_sem] theorem ptrT_1 : ptrT Tryd.prog 1 = false := by kernel_rfl
@[go_sem] theorem zeroT_1 : zeroT Tryd.prog 1 = true := by kernel_rfl
@[go_sem] theorem zeroOk_1 : zeroOk Tryd.prog 1 = true := by kernel_rfl
@[go_sem] theorem bytesOf_1 : bytesOf Tryd.prog 1 = 8 := by kernel_rfl
@[go_sem] theorem zeroD_1 : zeroD Tryd.prog 1 = [.v .nilFunc] := by kernel_rfl
@[go_sem] theorem okT_2 : okT Tryd.prog 2 = true := by kernel_rfl
@[go_sem] theorem szOf_2 : szOf Tryd.prog 2 = 1 := by kernel_rfl
@[go_sem] theorem aggT_2 : aggT Tryd.prog 2 = false := by kernel_rfl
@[go_sem] theorem undS_2 : (Tryd.prog.underlying 2).isSome = true := by kernel_rfl
@[go_sem] theorem infS_2 : (Tryd.prog.info? 2).isSome = true := by kernel_rfl
@[go_sem] theorem ifaceT_2 : ifaceT Tryd.prog 2 = false := by kernel_rfl
@[go_sem] theorem ptrT_2 : ptrT Tryd.prog 2 = false := by kernel_rfl
@[go_sem] theorem zeroT_2 : zeroT Tryd.prog 2 = true := by kernel_rfl
@[go_sem] theorem zeroOk_2 : zeroOk Tryd.prog 2 = true := by kernel_rfl
@[go_sem] theorem bytesOf_2 : bytesOf Tryd.prog 2 = 8 := by kernel_rfl
@[go_sem] theorem zeroD_2 : zeroD Tryd.prog 2 = [.v (.int .i64 0)] := by kernel_rfl
@[go_sem] theorem okT_3 : okT Tryd.prog 3 = true := by kernel_rfl
@[go_sem] theorem szOf_3 : szOf Tryd.prog 3 = 1 := by kernel_rfl
@[go_sem] theorem aggT_3 : aggT Tryd.prog 3 = false := by kernel_rfl
@[go_sem] theorem undS_3 : (Tryd.prog.underlying 3).isSome = true := by kernel_rfl
@[go_sem] theorem infS_3 : (Tryd.prog.info? 3).isSome = true := by kernel_rfl
@[go_sem] theorem ifaceT_3 : ifaceT Tryd.prog 3 = false := by kernel_rfl
@[go_sem] theorem ptrT_3 : ptrT Tryd.prog 3 = false := by kernel_rfl
@[go_sem] theorem zeroT_3 : zeroT Tryd.prog 3 = true := by kernel_rfl
@[go_sem] theorem zeroOk_3 : zeroOk Tryd.prog 3 = true := by kernel_rfl
@[go_sem] theorem bytesOf_3 : bytesOf Tryd.prog 3 = 8 := by kernel_rfl
@[go_sem] theorem zeroD_3 : zeroD Tryd.prog 3 = [.v (.int .i64 0)] := by kernel_rfl
@[go_sem] theorem okT_4 : okT Tryd.prog 4 = true := by kernel_rfl
@[go_sem] theorem szOf_4 : szOf Tryd.prog 4 = 1 := by kernel_rfl
@[go_sem] theorem aggT_4 : aggT Tryd.prog 4 = false := by kernel_rfl
@[go_sem] theorem undS_4 : (Tryd.prog.underlying 4).isSome = true := by kernel_rfl
@[go_sem] theorem infS_4 : (Tryd.prog.info? 4).isSome = true := by kernel_rfl
@[go_sem] theorem ifaceT_4 : ifaceT Tryd.prog 4 = false := by kernel_rfl
@[go_sem] theorem ptrT_4 : ptrT Tryd.prog 4 = false := by kernel_rfl
@[go_sem] theorem zeroT_4 : zeroT Tryd.prog 4 = true := by kernel_rfl
@[go_sem] theorem zeroOk_4 : zeroOk Tryd.prog 4 = true := by kernel_rfl
@[go_sem] theorem bytesOf_4 : bytesOf Tryd.prog 4 = 1 := by kernel_rfl
@[go_sem] theorem zeroD_4 : zeroD Tryd.prog 4 = [.v (.bool false)] := by kernel_rfl
@[go_sem] theorem okT_5 : okT Tryd.prog 5 = true := by kernel_rfl
@[go_sem] theorem szOf_5 : szOf Tryd.prog 5 = 1 := by kernel_rfl
@[go_sem] theorem aggT_5 : aggT Tryd.prog 5 = false := by kernel_rfl
@[go_sem] theorem undS_5 : (Tryd.prog.underlying 5).isSome = true := by kernel_rfl
@[go_sem] theorem infS_5 : (Tryd.prog.info? 5).isSome = true := by kernel_rfl
@[go_sem] theorem ifaceT_5 : ifaceT Tryd.prog 5 = false := by kernel_rfl
@[go_sem] theorem ptrT_5 : ptrT Tryd.prog 5 = false := by kernel_rfl
@[go_sem] theorem zeroT_5 : zeroT Tryd.prog 5 = true := by kernel_rfl
@[go_sem] theorem zeroOk_5 : zeroOk Tryd.prog 5 = true := by kernel_rfl
@[go_sem] theorem bytesOf_5 : bytesOf Tryd.prog 5 = 1 := by kernel_rfl
@[go_sem] theorem zeroD_5 : zeroD Tryd.prog 5 = [.v (.int .u8 0)] := by kernel_rfl
@[go_sem] theorem okT_6 : okT Tryd.prog 6 = true := by kernel_rfl
@[go_sem] theorem szOf_6 : szOf Tryd.prog 6 = 1 := by kernel_rfl
@[go_sem] theorem aggT_6 : aggT Tryd.prog 6 = false := by kernel_rfl
@[go_sem] theorem undS_6 : (Tryd.prog.underlying 6).isSome = true := by kernel_rfl
@[go_sem] theorem infS_6 : (Tryd.prog.info? 6).isSome = true := by kernel_rfl
@[go_sem] theorem ifaceT_6 : ifaceT Tryd.prog 6 = false := by kernel_rfl
@[go_sem] theorem ptrT_6 : ptrT Tryd.prog 6 = false := by kernel_rfl
@[go_sem] theorem zeroT_6 : zeroT Tryd.prog 6 = true := by kernel_rfl
@[go_sem] theorem zeroOk_6 : zeroOk Tryd.prog 6 = true := by kernel_rfl
@[go_sem] theorem bytesOf_6 : bytesOf Tryd.prog 6 = 1 := by kernel_rfl
@[go_sem] theorem zeroD_6 : zeroD Tryd.prog 6 = [.v (.int .u8 0)] := by kernel_rfl
@[go_sem] theorem okT_8 : okT Tryd.prog 8 = true := by kernel_rfl
@[go_sem] theorem szOf_8 : szOf Tryd.prog 8 = 4 := by kernel_rfl
@[go_sem] theorem aggT_8 : aggT Tryd.prog 8 = true := by kernel_rfl
@[go_sem] theorem undS_8 : (Tryd.prog.underlying 8).isSome = true := by kernel_rfl
@[go_sem] theorem infS_8 : (Tryd.prog.info? 8).isSome = true := by kernel_rfl
@[go_sem] theorem ifaceT_8 : ifaceT Tryd.prog 8 = false := by kernel_rfl
@[go_sem] theorem ptrT_8 : ptrT Tryd.prog 8 = false := by kernel_rfl
@[go_sem] theorem zeroT_8 : zeroT Tryd.prog 8 = true := by kernel_rfl
@[go_sem] theorem zeroOk_8 : zeroOk Tryd.prog 8 = true := by kernel_rfl
@[go_sem] theorem bytesOf_8 : bytesOf Tryd.prog 8 = 24 := by kernel_rfl
@[go_sem] theorem zeroD_8 : zeroD Tryd.prog 8 = [.v (.int .i64 0), .v (.int .i64 0), .v (.bool false), .v (.int .u8 0)] := by kernel_rfl
@[go_sem] theorem fld_8_0 : fld Tryd.prog 8 0 = some (0, 2) := by kernel_rfl
@[go_sem] theorem fld_8_1 : fld Tryd.prog 8 1 = some (1, 3) := by kernel_rfl
@[go_sem] theorem fld_8_2 : fld Tryd.prog 8 2 = some (2, 4) := by kernel_rfl
@[go_sem] theorem fld_8_3 : fld Tryd.prog 8 3 = some (3, 6) := by kernel_rfl
@[go_sem] theorem okT_9 : okT Tryd.prog 9 = true := by kernel_rfl
@[go_sem] theorem szOf_9 : szOf Tryd.prog 9 = 1 := by kernel_rfl
@[go_sem] theorem aggT_9 : aggT Tryd.prog 9 = false := by kernel_rfl
@[go_sem] theorem undS_9 : (Tryd.prog.underlying 9).isSome = true := by kernel_rfl
@[go_sem] theorem infS_9 : (Tryd.prog.info? 9).isSome = true := by kernel_rfl
@[go_sem] theorem ifaceT_9 : ifaceT Tryd.prog 9 = false := by kernel_rfl
@[go_sem] theorem ptrT_9 : ptrT Tryd.prog 9 = false := by kernel_rfl
@[go_sem] theorem zeroT_9 : zeroT Tryd.prog 9 = true := by kernel_rfl
@[go_sem] theorem zeroOk_9 : zeroOk Tryd.prog 9 = true := by kernel_rfl
@[go_sem] theorem bytesOf_9 : bytesOf Tryd.prog 9 = 16 := by kernel_rfl
@[go_sem] theorem zeroD_9 : zeroD Tryd.prog 9 = [.v (.string ⟨#[]⟩)] := by kernel_rfl
@[go_sem] theorem strT_9 : strT Tryd.prog 9 = true := by kernel_rfl
@[go_sem] theorem okT_10 : okT Tryd.prog 10 = true := by kernel_rfl
@[go_sem] theorem szOf_10 : szOf Tryd.prog 10 = 1 := by kernel_rfl
@[go_sem] theorem aggT_10 : aggT Tryd.prog 10 = false := by kernel_rfl
@[go_sem] theorem undS_10 : (Tryd.prog.underlying 10).isSome = true := by kernel_rfl
@[go_sem] theorem infS_10 : (Tryd.prog.info? 10).isSome = true := by kernel_rfl
@[go_sem] theorem ifaceT_10 : ifaceT Tryd.prog 10 = false := by kernel_rfl
@[go_sem] theorem ptrT_10 : ptrT Tryd.prog 10 = false := by kernel_rfl
@[go_sem] theorem zeroT_10 : zeroT Tryd.prog 10 = true := by kernel_rfl
@[go_sem] theorem zeroOk_10 : zeroOk Tryd.prog 10 = true := by kernel_rfl
@[go_sem] theorem bytesOf_10 : bytesOf Tryd.prog 10 = 16 := by kernel_rfl
@[go_sem] theorem zeroD_10 : zeroD Tryd.prog 10 = [.v (.string ⟨#[]⟩)] := by kernel_rfl
@[go_sem] theorem strT_10 : strT Tryd.prog 10 = true := by kernel_rfl
@[go_sem] theorem okT_11 : okT Tryd.prog 11 = true := by kernel_rfl
@[go_sem] theorem szOf_11 : szOf Tryd.prog 11 = 1 := by kernel_rfl
@[go_sem] theorem aggT_11 : aggT Tryd.prog 11 = false := by kernel_rfl
@[go_sem] theorem undS_11 : (Tryd.prog.underlying 11).isSome = true := by kernel_rfl
@[go_sem] theorem infS_11 : (Tryd.prog.info? 11).isSome = true := by kernel_rfl
@[go_sem] theorem ifaceT_11 : ifaceT Tryd.prog 11 = false := by kernel_rfl
@[go_sem] theorem ptrT_11 : ptrT Tryd.prog 11 = false := by kernel_rfl
@[go_sem] theorem zeroT_11 : zeroT Tryd.prog 11 = true := by kernel_rfl
@[go_sem] theorem zeroOk_11 : zeroOk Tryd.prog 11 = true := by kernel_rfl
@[go_sem] theorem bytesOf_11 : bytesOf Tryd.prog 11 = 16 := by kernel_rfl
@[go_sem] theorem zeroD_11 : zeroD Tryd.prog 11 = [.v (.string ⟨#[]⟩)] := by kernel_rfl
@[go_sem] theorem strT_11 : strT Tryd.prog 11 = true := by kernel_rfl
@[go_sem] theorem okT_12 : okT Tryd.prog 12 = true := by kernel_rfl
@[go_sem] theorem szOf_12 : szOf Tryd.prog 12 = 1 := by kernel_rfl
@[go_sem] theorem aggT_12 : aggT Tryd.prog 12 = false := by kernel_rfl
@[go_sem] theorem undS_12 : (Tryd.prog.underlying 12).isSome = true := by kernel_rfl
@[go_sem] theorem infS_12 : (Tryd.prog.info? 12).isSome = true := by kernel_rfl
@[go_sem] theorem ifaceT_12 : ifaceT Tryd.prog 12 = false := by kernel_rfl
@[go_sem] theorem ptrT_12 : ptrT Tryd.prog 12 = false := by kernel_rfl
@[go_sem] theorem zeroT_12 : zeroT Tryd.prog 12 = true := by kernel_rfl
@[go_sem] theorem zeroOk_12 : zeroOk Tryd.prog 12 = true := by kernel_rfl
@[go_sem] theorem bytesOf_12 : bytesOf Tryd.prog 12 = 8 := by kernel_rfl
@[go_sem] theorem zeroD_12 : zeroD Tryd.prog 12 = [.v (.int .u64 0)] := by kernel_rfl
@[go_sem] theorem okT_13 : okT Tryd.prog 13 = true := by kernel_rfl
@[go_sem] theorem szOf_13 : szOf Tryd.prog 13 = 2 := by kernel_rfl
@[go_sem] theorem aggT_13 : aggT Tryd.prog 13 = true := by kernel_rfl
@[go_sem] theorem undS_13 : (Tryd.prog.underlying 13).isSome = true := by kernel_rfl
@[go_sem] theorem infS_13 : (Tryd.prog.info? 13).isSome = true := by kernel_rfl
@[go_sem] theorem ifaceT_13 : ifaceT Tryd.prog 13 = false := by kernel_rfl
@[go_sem] theorem ptrT_13 : ptrT Tryd.prog 13 = false := by kernel_rfl
@[go_sem] theorem zeroT_13 : zeroT Tryd.prog 13 = true := by kernel_rfl
@[go_sem] theorem zeroOk_13 : zeroOk Tryd.prog 13 = true := by kernel_rfl
@[go_sem] theorem bytesOf_13 : bytesOf Tryd.prog 13 = 24 := by kernel_rfl
@[go_sem] theorem zeroD_13 : zeroD Tryd.prog 13 = [.v (.string ⟨#[]⟩), .v (.int .u64 0)] := by kernel_rfl
@[go_sem] theorem fld_13_0 : fld Tryd.prog 13 0 = some (0, 9) := by kernel_rfl
@[go_sem] theorem fld_13_1 : fld Tryd.prog 13 1 = some (1, 12) := by kernel_rfl
@[go_sem] theorem okT_14 : okT Tryd.prog 14 = true := by kernel_rfl
@[go_sem] theorem szOf_14 : szOf Tryd.prog 14 = 2 := by kernel_rfl
@[go_sem] theorem aggT_14 : aggT Tryd.prog 14 = true := by kernel_rfl
@[go_sem] theorem undS_14 : (Tryd.prog.underlying 14).isSome = true := by kernel_rfl
@[go_sem] theorem infS_14 : (Tryd.prog.info? 14).isSome = true := by kernel_rfl
@[go_sem] theorem ifaceT_14 : ifaceT Tryd.prog 14 = false := by kernel_rfl
@[go_sem] theorem ptrT_14 : ptrT Tryd.prog 14 = false := by kernel_rfl
@[go_sem] theorem zeroT_14 : zeroT Tryd.prog 14 = true := by kernel_rfl
@[go_sem] theorem zeroOk_14 : zeroOk Tryd.prog 14 = true := by kernel_rfl
@[go_sem] theorem bytesOf_14 : bytesOf Tryd.prog 14 = 24 := by kernel_rfl
@[go_sem] theorem zeroD_14 : zeroD Tryd.prog 14 = [.v (.string ⟨#[]⟩), .v (.int .u64 0)] := by kernel_rfl
@[go_sem] theorem fld_14_0 : fld Tryd.prog 14 0 = some (0, 9) := by kernel_rfl
@[go_sem] theorem fld_14_1 : fld Tryd.prog 14 1 = some (1, 12) := by kernel_rfl
@[go_sem] theorem okT_15 : okT Tryd.prog 15 = true := by kernel_rfl
@[go_sem] theorem szOf_15 : szOf Tryd.prog 15 = 1 := by kernel_rfl
@[go_sem] theorem aggT_15 : aggT Tryd.prog 15 = false := by kernel_rfl
@[go_sem] theorem undS_15 : (Tryd.prog.underlying 15).isSome = true := by kernel_rfl
@[go_sem] theorem infS_15 : (Tryd.prog.info? 15).isSome = true := by kernel_rfl
@[go_sem] theorem ifaceT_15 : ifaceT Tryd.prog 15 = false := by kernel_rfl
@[go_sem] theorem ptrT_15 : ptrT Tryd.prog 15 = true := by kernel_rfl
@[go_sem] theorem zeroT_15 : zeroT Tryd.prog 15 = true := by kernel_rfl
@[go_sem] theorem zeroOk_15 : zeroOk Tryd.prog 15 = true := by kernel_rfl
@[go_sem] theorem bytesOf_15 : bytesOf Tryd.prog 15 = 8 := by kernel_rfl
@[go_sem] theorem zeroD_15 : zeroD Tryd.prog 15 = [.v (.pointer none)] := by kernel_rfl
@[go_sem] theorem okT_17 : okT Tryd.prog 17 = true := by kernel_rfl
@[go_sem] theorem szOf_17 : szOf Tryd.prog 17 = 1 := by kernel_rfl
@[go_sem] theorem aggT_17 : aggT Tryd.prog 17 = false := by kernel_rfl
@[go_sem] theorem undS_17 : (Tryd.prog.underlying 17).isSome = true := by kernel_rfl
@[go_sem] theorem infS_17 : (Tryd.prog.info? 17).isSome = true := by kernel_rfl
@[go_sem] theorem ifaceT_17 : ifaceT Tryd.prog 17 = false := by kernel_rfl
@[go_sem] theorem ptrT_17 : ptrT Tryd.prog 17 = true := by kernel_rfl
@[go_sem] theorem zeroT_17 : zeroT Tryd.prog 17 = true := by kernel_rfl
@[go_sem] theorem zeroOk_17 : zeroOk Tryd.prog 17 = true := by kernel_rfl
@[go_sem] theorem bytesOf_17 : bytesOf Tryd.prog 17 = 8 := by kernel_rfl
@[go_sem] theorem zeroD_17 : zeroD Tryd.prog 17 = [.v (.pointer none)] := by kernel_rfl
@[go_sem] theorem okT_18 : okT Tryd.prog 18 = true := by kernel_rfl
@[go_sem] theorem szOf_18 : szOf Tryd.prog 18 = 1 := by kernel_rfl
@[go_sem] theorem aggT_18 : aggT Tryd.prog 18 = true := by kernel_rfl
@[go_sem] theorem undS_18 : (Tryd.prog.underlying 18).isSome = true := by kernel_rfl
@[go_sem] theorem infS_18 : (Tryd.prog.info? 18).isSome = true := by kernel_rfl
@[go_sem] theorem ifaceT_18 : ifaceT Tryd.prog 18 = false := by kernel_rfl
@[go_sem] theorem ptrT_18 : ptrT Tryd.prog 18 = false := by kernel_rfl
@[go_sem] theorem zeroT_18 : zeroT Tryd.prog 18 = true := by kernel_rfl
@[go_sem] theorem zeroOk_18 : zeroOk Tryd.prog 18 = true := by kernel_rfl
@[go_sem] theorem bytesOf_18 : bytesOf Tryd.prog 18 = 8 := by kernel_rfl
@[go_sem] theorem zeroD_18 : zeroD Tryd.prog 18 = [.v (.pointer none)] := by kernel_rfl
@[go_sem] theorem fld_18_0 : fld Tryd.prog 18 0 = some (0, 17) := by kernel_rfl
@[go_sem] theorem okT_19 : okT Tryd.prog 19 = true := by kernel_rfl
@[go_sem] theorem szOf_19 : szOf Tryd.prog 19 = 1 := by kernel_rfl
@[go_sem] theorem aggT_19 : aggT Tryd.prog 19 = true := by kernel_rfl
@[go_sem] theorem undS_19 : (Tryd.prog.underlying 19).isSome = true := by kernel_rfl
@[go_sem] theorem infS_19 : (Tryd.prog.info? 19).isSome = true := by kernel_rfl
@[go_sem] theorem ifaceT_19 : ifaceT Tryd.prog 19 = false := by kernel_rfl
@[go_sem] theorem ptrT_19 : ptrT Tryd.prog 19 = false := by kernel_rfl
@[go_sem] theorem zeroT_19 : zeroT Tryd.prog 19 = true := by kernel_rfl
@[go_sem] theorem zeroOk_19 : zeroOk Tryd.prog 19 = true := by kernel_rfl
@[go_sem] theorem bytesOf_19 : bytesOf Tryd.prog 19 = 8 := by kernel_rfl
@[go_sem] theorem zeroD_19 : zeroD Tryd.prog 19 = [.v (.pointer none)] := by kernel_rfl
@[go_sem] theorem fld_19_0 : fld Tryd.prog 19 0 = some (0, 17) := by kernel_rfl
@[go_sem] theorem okT_20 : okT Tryd.prog 20 = true := by kernel_rfl
@[go_sem] theorem szOf_20 : szOf Tryd.prog 20 = 1 := by kernel_rfl
@[go_sem] theorem aggT_20 : aggT Tryd.prog 20 = false := by kernel_rfl
@[go_sem] theorem undS_20 : (Tryd.prog.underlying 20).isSome = true := by kernel_rfl
@[go_sem] theorem infS_20 : (Tryd.prog.info? 20).isSome = true := by kernel_rfl
@[go_sem] theorem ifaceT_20 : ifaceT Tryd.prog 20 = true := by kernel_rfl
@[go_sem] theorem ptrT_20 : ptrT Tryd.prog 20 = false := by kernel_rfl
@[go_sem] theorem zeroT_20 : zeroT Tryd.prog 20 = true := by kernel_rfl
@[go_sem] theorem zeroOk_20 : zeroOk Tryd.prog 20 = true := by kernel_rfl
@[go_sem] theorem bytesOf_20 : bytesOf Tryd.prog 20 = 16 := by kernel_rfl
@[go_sem] theorem zeroD_20 : zeroD Tryd.prog 20 = [.v .nilIface] := by kernel_rfl
@[go_sem] theorem okT_21 : okT Tryd.prog 21 = true := by kernel_rfl
@[go_sem] theorem szOf_21 : szOf Tryd.prog 21 = 1 := by kernel_rfl
@[go_sem] theorem aggT_21 : aggT Tryd.prog 21 = false := by kernel_rfl
@[go_sem] theorem undS_21 : (Tryd.prog.underlying 21).isSome = true := by kernel_rfl
@[go_sem] theorem infS_21 : (Tryd.prog.info? 21).isSome = true := by kernel_rfl
@[go_sem] theorem ifaceT_21 : ifaceT Tryd.prog 21 = false := by kernel_rfl
@[go_sem] theorem ptrT_21 : ptrT Tryd.prog 21 = false := by kernel_rfl
@[go_sem] theorem zeroT_21 : zeroT Tryd.prog 21 = true := by kernel_rfl
@[go_sem] theorem zeroOk_21 : zeroOk Tryd.prog 21 = true := by kernel_rfl
@[go_sem] theorem bytesOf_21 : bytesOf Tryd.prog 21 = 4 := by kernel_rfl
@[go_sem] theorem zeroD_21 : zeroD Tryd.prog 21 = [.v (.int .i32 0)] := by kernel_rfl
@[go_sem] theorem okT_22 : okT Tryd.prog 22 = true := by kernel_rfl
@[go_sem] theorem szOf_22 : szOf Tryd.prog 22 = 1 := by kernel_rfl
@[go_sem] theorem aggT_22 : aggT Tryd.prog 22 = false := by kernel_rfl
@[go_sem] theorem undS_22 : (Tryd.prog.underlying 22).isSome = true := by kernel_rfl
@[go_sem] theorem infS_22 : (Tryd.prog.info? 22).isSome = true := by kernel_rfl
@[go_sem] theorem ifaceT_22 : ifaceT Tryd.prog 22 = false := by kernel_rfl
@[go_sem] theorem ptrT_22 : ptrT Tryd.prog 22 = false := by kernel_rfl
@[go_sem] theorem zeroT_22 : zeroT Tryd.prog 22 = true := by kernel_rfl
@[go_sem] theorem zeroOk_22 : zeroOk Tryd.prog 22 = true := by kernel_rfl
@[go_sem] theorem bytesOf_22 : bytesOf Tryd.prog 22 = 8 := by kernel_rfl
@[go_sem] theorem zeroD_22 : zeroD Tryd.prog 22 = [.v (.int .u64 0)] := by kernel_rfl
@[go_sem] theorem okT_23 : okT Tryd.prog 23 = true := by kernel_rfl
@[go_sem] theorem szOf_23 : szOf Tryd.prog 23 = 1 := by kernel_rfl
@[go_sem] theorem aggT_23 : aggT Tryd.prog 23 = false := by kernel_rfl
@[go_sem] theorem undS_23 : (Tryd.prog.underlying 23).isSome = true := by kernel_rfl
@[go_sem] theorem infS_23 : (Tryd.prog.info? 23).isSome = true := by kernel_rfl
@[go_sem] theorem ifaceT_23 : ifaceT Tryd.prog 23 = false := by kernel_rfl
@[go_sem] theorem ptrT_23 : ptrT Tryd.prog 23 = true := by kernel_rfl
@[go_sem] theorem zeroT_23 : zeroT Tryd.prog 23 = true := by kernel_rfl
@[go_sem] theorem zeroOk_23 : zeroOk Tryd.prog 23 = true := by kernel_rfl
@[go_sem] theorem bytesOf_23 : bytesOf Tryd.prog 23 = 8 := by kernel_rfl
@[go_sem] theorem zeroD_23 : zeroD Tryd.prog 23 = [.v (.pointer none)] := by kernel_rfl
@[go_sem] theorem okT_25 : okT Tryd.prog 25 = true := by kernel_rfl
@[go_sem] theorem szOf_25 : szOf Tryd.prog 25 = 1 := by kernel_rfl
@[go_sem] theorem aggT_25 : aggT Tryd.prog 25 = false := by kernel_rfl
@[go_sem] theorem undS_25 : (Tryd.prog.underlying 25).isSome = true := by kernel_rfl
@[go_sem] theorem infS_25 : (Tryd.prog.info? 25).isSome = true := by kernel_rfl
@[go_sem] theorem ifaceT_25 : ifaceT Tryd.prog 25 = false := by kernel_rfl
@[go_sem] theorem ptrT_25 : ptrT Tryd.prog 25 = false := by kernel_rfl
@[go_sem] theorem zeroT_25 : zeroT Tryd.prog 25 = true := by kernel_rfl
@[go_sem] theorem zeroOk_25 : zeroOk Tryd.prog 25 = true := by kernel_rfl
@[go_sem] theorem bytesOf_25 : bytesOf Tryd.prog 25 = 8 := by kernel_rfl
@[go_sem] theorem zeroD_25 : zeroD Tryd.prog 25 = [.v (.int .i64 0)] := by kernel_rfl
@[go_sem] theorem okT_28 : okT Tryd.prog 28 = true := by kernel_rfl
@[go_sem] theorem szOf_28 : szOf Tryd.prog 28 = 1 := by kernel_rfl
@[go_sem] theorem aggT_28 : aggT Tryd.prog 28 = false := by kernel_rfl
@[go_sem] theorem undS_28 : (Tryd.prog.underlying 28).isSome = true := by kernel_rfl
@[go_sem] theorem infS_28 : (Tryd.prog.info? 28).isSome = true := by kernel_rfl
@[go_sem] theorem ifaceT_28 : ifaceT Tryd.prog 28 = false := by kernel_rfl
@[go_sem] theorem ptrT_28 : ptrT Tryd.prog 28 = false := by kernel_rfl
@[go_sem] theorem zeroT_28 : zeroT Tryd.prog 28 = true := by kernel_rfl
@[go_sem] theorem zeroOk_28 : zeroOk Tryd.prog 28 = true := by kernel_rfl
@[go_sem] theorem bytesOf_28 : bytesOf Tryd.prog 28 = 8 := by kernel_rfl
@[go_sem] theorem zeroD_28 : zeroD Tryd.prog 28 = [.v .nilFunc] := by kernel_rfl
@[go_sem] theorem okT_30 : okT Tryd.prog 30 = true := by kernel_rfl
@[go_sem] theorem szOf_30 : szOf Tryd.prog 30 = 1 := by kernel_rfl
@[go_sem] theorem aggT_30 : aggT Tryd.prog 30 = false := by kernel_rfl
@[go_sem] theorem undS_30 : (Tryd.prog.underlying 30).isSome = true := by kernel_rfl
@[go_sem] theorem infS_30 : (Tryd.prog.info? 30).isSome = true := by kernel_rfl
@[go_sem] theorem ifaceT_30 : ifaceT Tryd.prog 30 = false := by kernel_rfl
@[go_sem] theorem ptrT_30 : ptrT Tryd.prog 30 = false := by kernel_rfl
@[go_sem] theorem zeroT_30 : zeroT Tryd.prog 30 = true := by kernel_rfl
@[go_sem] theorem zeroOk_30 : zeroOk Tryd.prog 30 = true := by kernel_rfl
@[go_sem] theorem bytesOf_30 : bytesOf Tryd.prog 30 = 24 := by kernel_rfl
@[go_sem] theorem zeroD_30 : zeroD Tryd.prog 30 = [.sl .full []] := by kernel_rfl
@[go_sem] theorem elT_30 : elT Tryd.prog 30 = some 5 := by kernel_rfl
@[go_sem] theorem bul_30 (own : Own) (es : List D) (ty : TypeId) (cs : Array Bool) : dbuiltin Tryd.prog .len #[30] ty cs [.sl own es] = some (True, .v (.int .i64 es.length)) := bu_len own es _ ty cs elT_30
@[go_sem] theorem bwl_30 (k off n c : Nat) (ty : TypeId) (cs : Array Bool) : dbuiltin Tryd.prog .len #[30] ty cs [.win k off n c] = some (True, .v (.int .i64 n)) := bu_wlen k off n c _ ty cs elT_30
@[go_sem] theorem okT_34 : okT Tryd.prog 34 = true := by kernel_rfl
@[go_sem] theorem szOf_34 : szOf Tryd.prog 34 = 1 := by kernel_rfl
@[go_sem] theorem aggT_34 : aggT Tryd.prog 34 = false := by kernel_rfl
@[go_sem] theorem undS_34 : (Tryd.prog.underlying 34).isSome = true := by kernel_rfl
@[go_sem] theorem infS_34 : (Tryd.prog.info? 34).isSome = true := by kernel_rfl
@[go_sem] theorem ifaceT_34 : ifaceT Tryd.prog 34 = true := by kernel_rfl
@[go_sem] theorem ptrT_34 : ptrT Tryd.prog 34 = false := by kernel_rfl
@[go_sem] theorem zeroT_34 : zeroT Tryd.prog 34 = true := by kernel_rfl
@[go_sem] theorem zeroOk_34 : zeroOk Tryd.prog 34 = true := by kernel_rfl
@[go_sem] theorem bytesOf_34 : bytesOf Tryd.prog 34 = 16 := by kernel_rfl
@[go_sem] theorem zeroD_34 : zeroD Tryd.prog 34 = [.v .nilIface] := by kernel_rfl
@[go_sem] theorem okT_35 : okT Tryd.prog 35 = true := by kernel_rfl
@[go_sem] theorem szOf_35 : szOf Tryd.prog 35 = 1 := by kernel_rfl
@[go_sem] theorem aggT_35 : aggT Tryd.prog 35 = false := by kernel_rfl
@[go_sem] theorem undS_35 : (Tryd.prog.underlying 35).isSome = true := by kernel_rfl
@[go_sem] theorem infS_35 : (Tryd.prog.info? 35).isSome = true := by kernel_rfl
@[go_sem] theorem ifaceT_35 : ifaceT Tryd.prog 35 = true := by kernel_rfl
@[go_sem] theorem ptrT_35 : ptrT Tryd.prog 35 = false := by kernel_rfl
@[go_sem] theorem zeroT_35 : zeroT Tryd.prog 35 = true := by kernel_rfl
@[go_sem] theorem zeroOk_35 : zeroOk Tryd.prog 35 = true := by kernel_rfl
@[go_sem] theorem bytesOf_35 : bytesOf Tryd.prog 35 = 16 := by kernel_rfl
@[go_sem] theorem zeroD_35 : zeroD Tryd.prog 35 = [.v .nilIface] := by kernel_rfl
@[go_sem] theorem okT_37 : okT Tryd.prog 37 = true := by kernel_rfl
@[go_sem] theorem szOf_37 : szOf Tryd.prog 37 = 1 := by kernel_rfl
@[go_sem] theorem aggT_37 : aggT Tryd.prog 37 = false := by kernel_rfl
@[go_sem] theorem undS_37 : (Tryd.prog.underlying 37).isSome = true := by kernel_rfl
@[go_sem] theorem infS_37 : (Tryd.prog.info? 37).isSome = true := by kernel_rfl
@[go_sem] theorem ifaceT_37 : ifaceT Tryd.prog 37 = false := by kernel_rfl
@[go_sem] theorem ptrT_37 : ptrT Tryd.prog 37 = false := by kernel_rfl
@[go_sem] theorem zeroT_37 : zeroT Tryd.prog 37 = true := by kernel_rfl
@[go_sem] theorem zeroOk_37 : zeroOk Tryd.prog 37 = true := by kernel_rfl
@[go_sem] theorem bytesOf_37 : bytesOf Tryd.prog 37 = 8 := by kernel_rfl
@[go_sem] theorem zeroD_37 : zeroD Tryd.prog 37 = [.v .nilFunc] := by kernel_rfl
@[go_sem] theorem okT_38 : okT Tryd.prog 38 = true := by kernel_rfl
@[go_sem] theorem szOf_38 : szOf Tryd.prog 38 = 1 := by kernel_rfl
@[go_sem] theorem aggT_38 : aggT Tryd.prog 38 = false := by kernel_rfl
@[go_sem] theorem undS_38 : (Tryd.prog.underlying 38).isSome = true := by kernel_rfl
@[go_sem] theorem infS_38 : (Tryd.prog.info? 38).isSome = true := by kernel_rfl
@[go_sem] theorem ifaceT_38 : ifaceT Tryd.prog 38 = false := by kernel_rfl
@[go_sem] theorem ptrT_38 : ptrT Tryd.prog 38 = false := by kernel_rfl
@[go_sem] theorem zeroT_38 : zeroT Tryd.prog 38 = true := by kernel_rfl
@[go_sem] theorem zeroOk_38 : zeroOk Tryd.prog 38 = true := by kernel_rfl
@[go_sem] theorem bytesOf_38 : bytesOf Tryd.prog 38 = 24 := by kernel_rfl
@[go_sem] theorem zeroD_38 : zeroD Tryd.prog 38 = [.sl .full []] := by kernel_rfl
@[go_sem] theorem elT_38 : elT Tryd.prog 38 = some 45 := by kernel_rfl
@[go_sem] theorem bul_38 (own : Own) (es : List D) (ty : TypeId) (cs : Array Bool) : dbuiltin Tryd.prog .len #[38] ty cs [.sl own es] = some (True, .v (.int .i64 es.length)) := bu_len own es _ ty cs elT_38
@[go_sem] theorem bwl_38 (k off n c : Nat) (ty : TypeId) (cs : Array Bool) : dbuiltin Tryd.prog .len #[38] ty cs [.win k off n c] = some (True, .v (.int .i64 n)) := bu_wlen k off n c _ ty cs elT_38
@[go_sem] theorem okT_41 : okT Tryd.prog 41 = true := by kernel_rfl
@[go_sem] theorem szOf_41 : szOf Tryd.prog 41 = 1 := by kernel_rfl
@[go_sem] theorem aggT_41 : aggT Tryd.prog 41 = false := by kernel_rfl
@[go_sem] theorem undS_41 : (Tryd.prog.underlying 41).isSome = true := by kernel_rfl
@[go_sem] theorem infS_41 : (Tryd.prog.info? 41).isSome = true := by kernel_rfl
@[go_sem] theorem ifaceT_41 : ifaceT Tryd.prog 41 = false := by kernel_rfl
@[go_sem] theorem ptrT_41 : ptrT Tryd.prog 41 = true := by kernel_rfl
@[go_sem] theorem zeroT_41 : zeroT Tryd.prog 41 = true := by kernel_rfl
@[go_sem] theorem zeroOk_41 : zeroOk Tryd.prog 41 = true := by kernel_rfl
@[go_sem] theorem bytesOf_41 : bytesOf Tryd.prog 41 = 8 := by kernel_rfl
@[go_sem] theorem zeroD_41 : zeroD Tryd.prog 41 = [.v (.pointer none)] := by kernel_rfl
@[go_sem] theorem okT_43 : okT Tryd.prog 43 = true := by kernel_rfl
@[go_sem] theorem szOf_43 : szOf Tryd.prog 43 = 4 := by kernel_rfl
@[go_sem] theorem aggT_43 : aggT Tryd.prog 43 = true := by kernel_rfl
@[go_sem] theorem undS_43 : (Tryd.prog.underlying 43).isSome = true := by kernel_rfl
@[go_sem] theorem infS_43 : (Tryd.prog.info? 43).isSome = true := by kernel_rfl
@[go_sem] theorem ifaceT_43 : ifaceT Tryd.prog 43 = false := by kernel_rfl
@[go_sem] theorem ptrT_43 : ptrT Tryd.prog 43 = false := by kernel_rfl
@[go_sem] theorem zeroT_43 : zeroT Tryd.prog 43 = true := by kernel_rfl
@[go_sem] theorem zeroOk_43 : zeroOk Tryd.prog 43 = true := by kernel_rfl
@[go_sem] theorem bytesOf_43 : bytesOf Tryd.prog 43 = 48 := by kernel_rfl
@[go_sem] theorem zeroD_43 : zeroD Tryd.prog 43 = [.sl .full [], .v (.int .i64 0), .v (.int .i64 0), .v (.int .i64 0)] := by kernel_rfl
@[go_sem] theorem fld_43_0 : fld Tryd.prog 43 0 = some (0, 30) := by kernel_rfl
@[go_sem] theorem fld_43_1 : fld Tryd.prog 43 1 = some (1, 3) := by kernel_rfl
@[go_sem] theorem fld_43_2 : fld Tryd.prog 43 2 = some (2, 3) := by kernel_rfl
@[go_sem] theorem fld_43_3 : fld Tryd.prog 43 3 = some (3, 3) := by kernel_rfl
@[go_sem] theorem okT_45 : okT Tryd.prog 45 = true := by kernel_rfl
@[go_sem] theorem szOf_45 : szOf Tryd.prog 45 = 4 := by kernel_rfl
@[go_sem] theorem aggT_45 : aggT Tryd.prog 45 = true := by kernel_rfl
@[go_sem] theorem undS_45 : (Tryd.prog.underlying 45).isSome = true := by kernel_rfl
@[go_sem] theorem infS_45 : (Tryd.prog.info? 45).isSome = true := by kernel_rfl
@[go_sem] theorem ifaceT_45 : ifaceT Tryd.prog 45 = false := by kernel_rfl
@[go_sem] theorem ptrT_45 : ptrT Tryd.prog 45 = false := by kernel_rfl
@[go_sem] theorem zeroT_45 : zeroT Tryd.prog 45 = true := by kernel_rfl
@[go_sem] theorem zeroOk_45 : zeroOk Tryd.prog 45 = true := by kernel_rfl
@[go_sem] theorem bytesOf_45 : bytesOf Tryd.prog 45 = 48 := by kernel_rfl
@[go_sem] theorem zeroD_45 : zeroD Tryd.prog 45 = [.v (.int .i64 0), .v (.int .u64 0), .sl .full [], .v (.int .i64 0)] := by kernel_rfl
@[go_sem] theorem fld_45_0 : fld Tryd.prog 45 0 = some (0, 3) := by kernel_rfl
@[go_sem] theorem fld_45_1 : fld Tryd.prog 45 1 = some (1, 22) := by kernel_rfl
@[go_sem] theorem fld_45_2 : fld Tryd.prog 45 2 = some (2, 30) := by kernel_rfl
@[go_sem] theorem fld_45_3 : fld Tryd.prog 45 3 = some (3, 3) := by kernel_rfl
@[go_sem] theorem okT_50 : okT Tryd.prog 50 = true := by kernel_rfl
@[go_sem] theorem szOf_50 : szOf Tryd.prog 50 = 1 := by kernel_rfl
@[go_sem] theorem aggT_50 : aggT Tryd.prog 50 = false := by kernel_rfl
@[go_sem] theorem undS_50 : (Tryd.prog.underlying 50).isSome = true := by kernel_rfl
@[go_sem] theorem infS_50 : (Tryd.prog.info? 50).isSome = true := by kernel_rfl
@[go_sem] theorem ifaceT_50 : ifaceT Tryd.prog 50 = false := by kernel_rfl
@[go_sem] theorem ptrT_50 : ptrT Tryd.prog 50 = false := by kernel_rfl
@[go_sem] theorem zeroT_50 : zeroT Tryd.prog 50 = true := by kernel_rfl
@[go_sem] theorem zeroOk_50 : zeroOk Tryd.prog 50 = true := by kernel_rfl
@[go_sem] theorem bytesOf_50 : bytesOf Tryd.prog 50 = 24 := by kernel_rfl
@[go_sem] theorem zeroD_50 : zeroD Tryd.prog 50 = [.sl .full []] := by kernel_rfl
@[go_sem] theorem elT_50 : elT Tryd.prog 50 = some 9 := by kernel_rfl
@[go_sem] theorem bul_50 (own : Own) (es : List D) (ty : TypeId) (cs : Array Bool) : dbuiltin Tryd.prog .len #[50] ty cs [.sl own es] = some (True, .v (.int .i64 es.length)) := bu_len own es _ ty cs elT_50
@[go_sem] theorem bwl_50 (k off n c : Nat) (ty : TypeId) (cs : Array Bool) : dbuiltin Tryd.prog .len #[50] ty cs [.win k off n c] = some (True, .v (.int .i64 n)) := bu_wlen k off n c _ ty cs elT_50
@[go_sem] theorem okT_51 : okT Tryd.prog 51 = true := by kernel_rfl
@[go_sem] theorem szOf_51 : szOf Tryd.prog 51 = 1 := by kernel_rfl
@[go_sem] theorem aggT_51 : aggT Tryd.prog 51 = false := by kernel_rfl
@[go_sem] theorem undS_51 : (Tryd.prog.underlying 51).isSome = true := by kernel_rfl
@[go_sem] theorem infS_51 : (Tryd.prog.info? 51).isSome = true := by kernel_rfl
@[go_sem] theorem ifaceT_51 : ifaceT Tryd.prog 51 = false := by kernel_rfl
@[go_sem] theorem ptrT_51 : ptrT Tryd.prog 51 = false := by kernel_rfl
@[go_sem] theorem zeroT_51 : zeroT Tryd.prog 51 = true := by kernel_rfl
@[go_sem] theorem zeroOk_51 : zeroOk Tryd.prog 51 = true := by kernel_rfl
@[go_sem] theorem bytesOf_51 : bytesOf Tryd.prog 51 = 24 := by kernel_rfl
@[go_sem] theorem zeroD_51 : zeroD Tryd.prog 51 = [.sl .full []] := by kernel_rfl
@[go_sem] theorem elT_51 : elT Tryd.prog 51 = some 53 := by kernel_rfl
@[go_sem] theorem bul_51 (own : Own) (es : List D) (ty : TypeId) (cs : Array Bool) : dbuiltin Tryd.prog .len #[51] ty cs [.sl own es] = some (True, .v (.int .i64 es.length)) := bu_len own es _ ty cs elT_51
@[go_sem] theorem bwl_51 (k off n c : Nat) (ty : TypeId) (cs : Array Bool) : dbuiltin Tryd.prog .len #[51] ty cs [.win k off n c] = some (True, .v (.int .i64 n)) := bu_wlen k off n c _ ty cs elT_51
@[go_sem] theorem okT_53 : okT Tryd.prog 53 = true := by kernel_rfl
@[go_sem] theorem szOf_53 : szOf Tryd.prog 53 = 3 := by kernel_rfl
@[go_sem] theorem aggT_53 : aggT Tryd.prog 53 = true := by kernel_rfl
@[go_sem] theorem undS_53 : (Tryd.prog.underlying 53).isSome = true := by kernel_rfl
@[go_sem] theorem infS_53 : (Tryd.prog.info? 53).isSome = true := by kernel_rfl
@[go_sem] theorem ifaceT_53 : ifaceT Tryd.prog 53 = false := by kernel_rfl
@[go_sem] theorem ptrT_53 : ptrT Tryd.prog 53 = false := by kernel_rfl
@[go_sem] theorem zeroT_53 : zeroT Tryd.prog 53 = true := by kernel_rfl
@[go_sem] theorem zeroOk_53 : zeroOk Tryd.prog 53 = true := by kernel_rfl
@[go_sem] theorem bytesOf_53 : bytesOf Tryd.prog 53 = 56 := by kernel_rfl
@[go_sem] theorem zeroD_53 : zeroD Tryd.prog 53 = [.v (.int .i64 0), .sl .full [], .sl .full []] := by kernel_rfl
@[go_sem] theorem fld_53_0 : fld Tryd.prog 53 0 = some (0, 3) := by kernel_rfl
@[go_sem] theorem fld_53_1 : fld Tryd.prog 53 1 = some (1, 50) := by kernel_rfl
@[go_sem] theorem fld_53_2 : fld Tryd.prog 53 2 = some (2, 51) := by kernel_rfl
noncomputable def pl53 : Nat → Option (Nat × Nat) := (placeT Tryd.prog 53).getD fun _ => none
@[go_sem] theorem placeT_53 : placeT Tryd.prog 53 = some pl53 := by kernel_rfl
@[go_sem] theorem pl_53_0 : pl53 0 = some (0, 1) := by kernel_rfl
@[go_sem] theorem pl_53_1 : pl53 1 = some (1, 1) := by kernel_rfl
@[go_sem] theorem pl_53_2 : pl53 2 = some (2, 1) := by kernel_rfl
@[go_sem] theorem okT_54 : okT Tryd.prog 54 = true := by kernel_rfl
@[go_sem] theorem szOf_54 : szOf Tryd.prog 54 = 1 := by kernel_rfl
@[go_sem] theorem aggT_54 : aggT Tryd.prog 54 = false := by kernel_rfl
@[go_sem] theorem undS_54 : (Tryd.prog.underlying 54).isSome = true := by kernel_rfl
@[go_sem] theorem infS_54 : (Tryd.prog.info? 54).isSome = true := by kernel_rfl
@[go_sem] theorem ifaceT_54 : ifaceT Tryd.prog 54 = false := by kernel_rfl
@[go_sem] theorem ptrT_54 : ptrT Tryd.prog 54 = false := by kernel_rfl
@[go_sem] theorem zeroT_54 : zeroT Tryd.prog 54 = true := by kernel_rfl
@[go_sem] theorem zeroOk_54 : zeroOk Tryd.prog 54 = true := by kernel_rfl
@[go_sem] theorem bytesOf_54 : bytesOf Tryd.prog 54 = 8 := by kernel_rfl
@[go_sem] theorem zeroD_54 : zeroD Tryd.prog 54 = [.v .nilFunc] := by kernel_rfl
@[go_sem] theorem okT_64 : okT Tryd.prog 64 = true := by kernel_rfl
@[go_sem] theorem szOf_64 : szOf Tryd.prog 64 = 3 := by kernel_rfl
@[go_sem] theorem aggT_64 : aggT Tryd.prog 64 = true := by kernel_rfl
@[go_sem] theorem undS_64 : (Tryd.prog.underlying 64).isSome = true := by kernel_rfl
@[go_sem] theorem infS_64 : (Tryd.prog.info? 64).isSome = true := by kernel_rfl
@[go_sem] theorem ifaceT_64 : ifaceT Tryd.prog 64 = false := by kernel_rfl
@[go_sem] theorem ptrT_64 : ptrT Tryd.prog 64 = false := by kernel_rfl
@[go_sem] theorem zeroT_64 : zeroT Tryd.prog 64 = true := by kernel_rfl
@[go_sem] theorem zeroOk_64 : zeroOk Tryd.prog 64 = true := by kernel_rfl
@[go_sem] theorem bytesOf_64 : bytesOf Tryd.prog 64 = 48 := by kernel_rfl
@[go_sem] theorem zeroD_64 : zeroD Tryd.prog 64 = [.sl .full [], .v (.int .i64 0), .v .nilIface] := by kernel_rfl
@[go_sem] theorem fld_64_0 : fld Tryd.prog 64 0 = some (0, 30) := by kernel_rfl
@[go_sem] theorem fld_64_1 : fld Tryd.prog 64 1 = some (1, 3) := by kernel_rfl
@[go_sem] theorem fld_64_2 : fld Tryd.prog 64 2 = some (2, 35) := by kernel_rfl
noncomputable def pl64 : Nat → Option (Nat × Nat) := (placeT Tryd.prog 64).getD fun _ => none
@[go_sem] theorem placeT_64 : placeT Tryd.prog 64 = some pl64 := by kernel_rfl
@[go_sem] theorem pl_64_0 : pl64 0 = some (0, 1) := by kernel_rfl
@[go_sem] theorem pl_64_1 : pl64 1 = some (1, 1) := by kernel_rfl
@[go_sem] theorem pl_64_2 : pl64 2 = some (2, 1) := by kernel_rfl
@[go_sem] theorem okT_67 : okT Tryd.prog 67 = true := by kernel_rfl
@[go_sem] theorem szOf_67 : szOf Tryd.prog 67 = 1 := by kernel_rfl
@[go_sem] theorem aggT_67 : aggT Tryd.prog 67 = false := by kernel_rfl
@[go_sem] theorem undS_67 : (Tryd.prog.underlying 67).isSome = true := by kernel_rfl
@[go_sem] theorem infS_67 : (Tryd.prog.info? 67).isSome = true := by kernel_rfl
@[go_sem] theorem ifaceT_67 : ifaceT Tryd.prog 67 = false := by kernel_rfl
@[go_sem] theorem ptrT_67 : ptrT Tryd.prog 67 = false := by kernel_rfl
@[go_sem] theorem zeroT_67 : zeroT Tryd.prog 67 = true := by kernel_rfl
@[go_sem] theorem zeroOk_67 : zeroOk Tryd.prog 67 = true := by kernel_rfl
@[go_sem] theorem bytesOf_67 : bytesOf Tryd.prog 67 = 8 := by kernel_rfl
@[go_sem] theorem zeroD_67 : zeroD Tryd.prog 67 = [.v .nilFunc] := by kernel_rfl
@[go_sem] theorem okT_73 : okT Tryd.prog 73 = true := by kernel_rfl
@[go_sem] theorem szOf_73 : szOf Tryd.prog 73 = 1 := by kernel_rfl
@[go_sem] theorem aggT_73 : aggT Tryd.prog 73 = true := by kernel_rfl
@[go_sem] theorem undS_73 : (Tryd.prog.underlying 73).isSome = true := by kernel_rfl
@[go_sem] theorem infS_73 : (Tryd.prog.info? 73).isSome = true := by kernel_rfl
@[go_sem] theorem ifaceT_73 : ifaceT Tryd.prog 73 = false := by kernel_rfl
@[go_sem] theorem ptrT_73 : ptrT Tryd.prog 73 = false := by kernel_rfl
@[go_sem] theorem zeroT_73 : zeroT Tryd.prog 73 = true := by kernel_rfl
@[go_sem] theorem zeroOk_73 : zeroOk Tryd.prog 73 = true := by kernel_rfl
@[go_sem] theorem bytesOf_73 : bytesOf Tryd.prog 73 = 24 := by kernel_rfl
@[go_sem] theorem zeroD_73 : zeroD Tryd.prog 73 = [.sl .full []] := by kernel_rfl
@[go_sem] theorem fld_73_0 : fld Tryd.prog 73 0 = some (0, 30) := by kernel_rfl
@[go_sem] theorem okT_79 : okT Tryd.prog 79 = true := by kernel_rfl
@[go_sem] theorem szOf_79 : szOf Tryd.prog 79 = 1 := by kernel_rfl
@[go_sem] theorem aggT_79 : aggT Tryd.prog 79 = false := by kernel_rfl
@[go_sem] theorem undS_79 : (Tryd.prog.underlying 79).isSome = true := by kernel_rfl
@[go_sem] theorem infS_79 : (Tryd.prog.info? 79).isSome = true := by kernel_rfl
@[go_sem] theorem ifaceT_79 : ifaceT Tryd.prog 79 = false := by kernel_rfl
@[go_sem] theorem ptrT_79 : ptrT Tryd.prog 79 = false := by kernel_rfl
@[go_sem] theorem zeroT_79 : zeroT Tryd.prog 79 = true := by kernel_rfl
@[go_sem] theorem zeroOk_79 : zeroOk Tryd.prog 79 = true := by kernel_rfl
@[go_sem] theorem bytesOf_79 : bytesOf Tryd.prog 79 = 24 := by kernel_rfl
@[go_sem] theorem zeroD_79 : zeroD Tryd.prog 79 = [.sl .full []] := by kernel_rfl
@[go_sem] theorem elT_79 : elT Tryd.prog 79 = some 22 := by kernel_rfl
@[go_sem] theorem bul_79 (own : Own) (es : List D) (ty : TypeId) (cs : Array Bool) : dbuiltin Tryd.prog .len #[79] ty cs [.sl own es] = some (True, .v (.int .i64 es.length)) := bu_len own es _ ty cs elT_79
@[go_sem] theorem bwl_79 (k off n c : Nat) (ty : TypeId) (cs : Array Bool) : dbuiltin Tryd.prog .len #[79] ty cs [.win k off n c] = some (True, .v (.int .i64 n)) := bu_wlen k off n c _ ty cs elT_79
@[go_sem] theorem okT_80 : okT Tryd.prog 80 = true := by kernel_rfl
@[go_sem] theorem szOf_80 : szOf Tryd.prog 80 = 1 := by kernel_rfl
@[go_sem] theorem aggT_80 : aggT Tryd.prog 80 = false := by kernel_rfl
@[go_sem] theorem undS_80 : (Tryd.prog.underlying 80).isSome = true := by kernel_rfl
@[go_sem] theorem infS_80 : (Tryd.prog.info? 80).isSome = true := by kernel_rfl
@[go_sem] theorem ifaceT_80 : ifaceT Tryd.prog 80 = false := by kernel_rfl
@[go_sem] theorem ptrT_80 : ptrT Tryd.prog 80 = false := by kernel_rfl
@[go_sem] theorem zeroT_80 : zeroT Tryd.prog 80 = true := by kernel_rfl
@[go_sem] theorem zeroOk_80 : zeroOk Tryd.prog 80 = true := by kernel_rfl
@[go_sem] theorem bytesOf_80 : bytesOf Tryd.prog 80 = 24 := by kernel_rfl
@[go_sem] theorem zeroD_80 : zeroD Tryd.prog 80 = [.sl .full []] := by kernel_rfl
@[go_sem] theorem elT_80 : elT Tryd.prog 80 = some 82 := by kernel_rfl
@[go_sem] theorem bul_80 (own : Own) (es : List D) (ty : TypeId) (cs : Array Bool) : dbuiltin Tryd.prog .len #[80] ty cs [.sl own es] = some (True, .v (.int .i64 es.length)) := bu_len own es _ ty cs elT_80
@[go_sem] theorem bwl_80 (k off n c : Nat) (ty : TypeId) (cs : Array Bool) : dbuiltin Tryd.prog .len #[80] ty cs [.win k off n c] = some (True, .v (.int .i64 n)) := bu_wlen k off n c _ ty cs elT_80
@[go_sem] theorem okT_82 : okT Tryd.prog 82 = true := by kernel_rfl
@[go_sem] theorem szOf_82 : szOf Tryd.prog 82 = 6 := by kernel_rfl
@[go_sem] theorem aggT_82 : aggT Tryd.prog 82 = true := by kernel_rfl
@[go_sem] theorem undS_82 : (Tryd.prog.underlying 82).isSome = true := by kernel_rfl
@[go_sem] theorem infS_82 : (Tryd.prog.info? 82).isSome = true := by kernel_rfl
@[go_sem] theorem ifaceT_82 : ifaceT Tryd.prog 82 = false := by kernel_rfl
@[go_sem] theorem ptrT_82 : ptrT Tryd.prog 82 = false := by kernel_rfl
@[go_sem] theorem zeroT_82 : zeroT Tryd.prog 82 = true := by kernel_rfl
@[go_sem] theorem zeroOk_82 : zeroOk Tryd.prog 82 = true := by kernel_rfl
@[go_sem] theorem bytesOf_82 : bytesOf Tryd.prog 82 = 104 := by kernel_rfl
@[go_sem] theorem zeroD_82 : zeroD Tryd.prog 82 = [.v (.int .i64 0), .v (.int .i64 0), .v (.string ⟨#[]⟩), .sl .full [], .sl .full [], .sl .full []] := by kernel_rfl
@[go_sem] theorem fld_82_0 : fld Tryd.prog 82 0 = some (0, 3) := by kernel_rfl
@[go_sem] theorem fld_82_1 : fld Tryd.prog 82 1 = some (1, 3) := by kernel_rfl
@[go_sem] theorem fld_82_2 : fld Tryd.prog 82 2 = some (2, 9) := by kernel_rfl
@[go_sem] theorem fld_82_3 : fld Tryd.prog 82 3 = some (3, 50) := by kernel_rfl
@[go_sem] theorem fld_82_4 : fld Tryd.prog 82 4 = some (4, 79) := by kernel_rfl
@[go_sem] theorem fld_82_5 : fld Tryd.prog 82 5 = some (5, 80) := by kernel_rfl
@[go_sem] theorem okT_85 : okT Tryd.prog 85 = true := by kernel_rfl
@[go_sem] theorem szOf_85 : szOf Tryd.prog 85 = 1 := by kernel_rfl
@[go_sem] theorem aggT_85 : aggT Tryd.prog 85 = false := by kernel_rfl
@[go_sem] theorem undS_85 : (Tryd.prog.underlying 85).isSome = true := by kernel_rfl
@[go_sem] theorem infS_85 : (Tryd.prog.info? 85).isSome = true := by kernel_rfl
@[go_sem] theorem ifaceT_85 : ifaceT Tryd.prog 85 = false := by kernel_rfl
@[go_sem] theorem ptrT_85 : ptrT Tryd.prog 85 = true := by kernel_rfl
@[go_sem] theorem zeroT_85 : zeroT Tryd.prog 85 = true := by kernel_rfl
@[go_sem] theorem zeroOk_85 : zeroOk Tryd.prog 85 = true := by kernel_rfl
@[go_sem] theorem bytesOf_85 : bytesOf Tryd.prog 85 = 8 := by kernel_rfl
@[go_sem] theorem zeroD_85 : zeroD Tryd.prog 85 = [.v (.pointer none)] := by kernel_rfl
@[go_sem] theorem okT_88 : okT Tryd.prog 88 = true := by kernel_rfl
@[go_sem] theorem szOf_88 : szOf Tryd.prog 88 = 1 := by kernel_rfl
@[go_sem] theorem aggT_88 : aggT Tryd.prog 88 = false := by kernel_rfl
@[go_sem] theorem undS_88 : (Tryd.prog.underlying 88).isSome = true := by kernel_rfl
@[go_sem] theorem infS_88 : (Tryd.prog.info? 88).isSome = true := by kernel_rfl
@[go_sem] theorem ifaceT_88 : ifaceT Tryd.prog 88 = false := by kernel_rfl
@[go_sem] theorem ptrT_88 : ptrT Tryd.prog 88 = true := by kernel_rfl
@[go_sem] theorem zeroT_88 : zeroT Tryd.prog 88 = true := by kernel_rfl
@[go_sem] theorem zeroOk_88 : zeroOk Tryd.prog 88 = true := by kernel_rfl
@[go_sem] theorem bytesOf_88 : bytesOf Tryd.prog 88 = 8 := by kernel_rfl
@[go_sem] theorem zeroD_88 : zeroD Tryd.prog 88 = [.v (.pointer none)] := by kernel_rfl
@[go_sem] theorem okT_91 : okT Tryd.prog 91 = true := by kernel_rfl
@[go_sem] theorem szOf_91 : szOf Tryd.prog 91 = 1 := by kernel_rfl
@[go_sem] theorem aggT_91 : aggT Tryd.prog 91 = false := by kernel_rfl
@[go_sem] theorem undS_91 : (Tryd.prog.underlying 91).isSome = true := by kernel_rfl
@[go_sem] theorem infS_91 : (Tryd.prog.info? 91).isSome = true := by kernel_rfl
@[go_sem] theorem ifaceT_91 : ifaceT Tryd.prog 91 = false := by kernel_rfl
@[go_sem] theorem ptrT_91 : ptrT Tryd.prog 91 = true := by kernel_rfl
@[go_sem] theorem zeroT_91 : zeroT Tryd.prog 91 = true := by kernel_rfl
@[go_sem] theorem zeroOk_91 : zeroOk Tryd.prog 91 = true := by kernel_rfl
@[go_sem] theorem bytesOf_91 : bytesOf Tryd.prog 91 = 8 := by kernel_rfl
@[go_sem] theorem zeroD_91 : zeroD Tryd.prog 91 = [.v (.pointer none)] := by kernel_rfl
@[go_sem] theorem okT_93 : okT Tryd.prog 93 = true := by kernel_rfl
@[go_sem] theorem szOf_93 : szOf Tryd.prog 93 = 2 := by kernel_rfl
@[go_sem] theorem aggT_93 : aggT Tryd.prog 93 = true := by kernel_rfl
@[go_sem] theorem undS_93 : (Tryd.prog.underlying 93).isSome = true := by kernel_rfl
@[go_sem] theorem infS_93 : (Tryd.prog.info? 93).isSome = true := by kernel_rfl
@[go_sem] theorem ifaceT_93 : ifaceT Tryd.prog 93 = false := by kernel_rfl
@[go_sem] theorem ptrT_93 : ptrT Tryd.prog 93 = false := by kernel_rfl
@[go_sem] theorem zeroT_93 : zeroT Tryd.prog 93 = true := by kernel_rfl
@[go_sem] theorem zeroOk_93 : zeroOk Tryd.prog 93 = true := by kernel_rfl
@[go_sem] theorem bytesOf_93 : bytesOf Tryd.prog 93 = 24 := by kernel_rfl
@[go_sem] theorem zeroD_93 : zeroD Tryd.prog 93 = [.v (.int .i64 0), .v .nilIface] := by kernel_rfl
@[go_sem] theorem fld_93_0 : fld Tryd.prog 93 0 = some (0, 3) := by kernel_rfl
@[go_sem] theorem fld_93_1 : fld Tryd.prog 93 1 = some (1, 35) := by kernel_rfl
@[go_sem] theorem okT_96 : okT Tryd.prog 96 = true := by kernel_rfl
@[go_sem] theorem szOf_96 : szOf Tryd.prog 96 = 1 := by kernel_rfl
@[go_sem] theorem aggT_96 : aggT Tryd.prog 96 = false := by kernel_rfl
@[go_sem] theorem undS_96 : (Tryd.prog.underlying 96).isSome = true := by kernel_rfl
@[go_sem] theorem infS_96 : (Tryd.prog.info? 96).isSome = true := by kernel_rfl
@[go_sem] theorem ifaceT_96 : ifaceT Tryd.prog 96 = false := by kernel_rfl
@[go_sem] theorem ptrT_96 : ptrT Tryd.prog 96 = false := by kernel_rfl
@[go_sem] theorem zeroT_96 : zeroT Tryd.prog 96 = true := by kernel_rfl
@[go_sem] theorem zeroOk_96 : zeroOk Tryd.prog 96 = true := by kernel_rfl
@[go_sem] theorem bytesOf_96 : bytesOf Tryd.prog 96 = 24 := by kernel_rfl
@[go_sem] theorem zeroD_96 : zeroD Tryd.prog 96 = [.sl .full []] := by kernel_rfl
@[go_sem] theorem elT_96 : elT Tryd.prog 96 = some 35 := by kernel_rfl
@[go_sem] theorem bul_96 (own : Own) (es : List D) (ty : TypeId) (cs : Array Bool) : dbuiltin Tryd.prog .len #[96] ty cs [.sl own es] = some (True, .v (.int .i64 es.length)) := bu_len own es _ ty cs elT_96
@[go_sem] theorem bwl_96 (k off n c : Nat) (ty : TypeId) (cs : Array Bool) : dbuiltin Tryd.prog .len #[96] ty cs [.win k off n c] = some (True, .v (.int .i64 n)) := bu_wlen k off n c _ ty cs elT_96
@[go_sem] theorem okT_101 : okT Tryd.prog 101 = true := by kernel_rfl
@[go_sem] theorem szOf_101 : szOf Tryd.prog 101 = 1 := by kernel_rfl
@[go_sem] theorem aggT_101 : aggT Tryd.prog 101 = false := by kernel_rfl
@[go_sem] theorem undS_101 : (Tryd.prog.underlying 101).isSome = true := by kernel_rfl
@[go_sem] theorem infS_101 : (Tryd.prog.info? 101).isSome = true := by kernel_rfl
@[go_sem] theorem ifaceT_101 : ifaceT Tryd.prog 101 = false := by kernel_rfl
@[go_sem] theorem ptrT_101 : ptrT Tryd.prog 101 = false := by kernel_rfl
@[go_sem] theorem zeroT_101 : zeroT Tryd.prog 101 = true := by kernel_rfl
@[go_sem] theorem zeroOk_101 : zeroOk Tryd.prog 101 = true := by kernel_rfl
@[go_sem] theorem bytesOf_101 : bytesOf Tryd.prog 101 = 8 := by kernel_rfl
@[go_sem] theorem zeroD_101 : zeroD Tryd.prog 101 = [.v .nilFunc] := by kernel_rfl
@[go_sem] theorem okT_103 : okT Tryd.prog 103 = true := by kernel_rfl
@[go_sem] theorem szOf_103 : szOf Tryd.prog 103 = 1 := by kernel_rfl
@[go_sem] theorem aggT_103 : aggT Tryd.prog 103 = false := by kernel_rfl
@[go_sem] theorem undS_103 : (Tryd.prog.underlying 103).isSome = true := by kernel_rfl
@[go_sem] theorem infS_103 : (Tryd.prog.info? 103).isSome = true := by kernel_rfl
@[go_sem] theorem ifaceT_103 : ifaceT Tryd.prog 103 = false := by kernel_rfl
@[go_sem] theorem ptrT_103 : ptrT Tryd.prog 103 = false := by kernel_rfl
@[go_sem] theorem zeroT_103 : zeroT Tryd.prog 103 = true := by kernel_rfl
@[go_sem] theorem zeroOk_103 : zeroOk Tryd.prog 103 = true := by kernel_rfl
@[go_sem] theorem bytesOf_103 : bytesOf Tryd.prog 103 = 8 := by kernel_rfl
@[go_sem] theorem zeroD_103 : zeroD Tryd.prog 103 = [.v .nilFunc] := by kernel_rfl
@[go_sem] theorem okT_104 : okT Tryd.prog 104 = true := by kernel_rfl
@[go_sem] theorem szOf_104 : szOf Tryd.prog 104 = 1 := by kernel_rfl
@[go_sem] theorem aggT_104 : aggT Tryd.prog 104 = false := by kernel_rfl
@[go_sem] theorem undS_104 : (Tryd.prog.underlying 104).isSome = true := by kernel_rfl
@[go_sem] theorem infS_104 : (Tryd.prog.info? 104).isSome = true := by kernel_rfl
@[go_sem] theorem ifaceT_104 : ifaceT Tryd.prog 104 = false := by kernel_rfl
@[go_sem] theorem ptrT_104 : ptrT Tryd.prog 104 = false := by kernel_rfl
@[go_sem] theorem zeroT_104 : zeroT Tryd.prog 104 = true := by kernel_rfl
@[go_sem] theorem zeroOk_104 : zeroOk Tryd.prog 104 = true := by kernel_rfl
@[go_sem] theorem bytesOf_104 : bytesOf Tryd.prog 104 = 8 := by kernel_rfl
@[go_sem] theorem zeroD_104 : zeroD Tryd.prog 104 = [.v (.pointer none)] := by kernel_rfl
@[go_sem] theorem okT_105 : okT Tryd.prog 105 = true := by kernel_rfl
@[go_sem] theorem szOf_105 : szOf Tryd.prog 105 = 1 := by kernel_rfl
@[go_sem] theorem aggT_105 : aggT Tryd.prog 105 = false := by kernel_rfl
@[go_sem] theorem undS_105 : (Tryd.prog.underlying 105).isSome = true := by kernel_rfl
@[go_sem] theorem infS_105 : (Tryd.prog.info? 105).isSome = true := by kernel_rfl
@[go_sem] theorem ifaceT_105 : ifaceT Tryd.prog 105 = false := by kernel_rfl
@[go_sem] theorem ptrT_105 : ptrT Tryd.prog 105 = false := by kernel_rfl
@[go_sem] theorem zeroT_105 : zeroT Tryd.prog 105 = true := by kernel_rfl
@[go_sem] theorem zeroOk_105 : zeroOk Tryd.prog 105 = true := by kernel_rfl
@[go_sem] theorem bytesOf_105 : bytesOf Tryd.prog 105 = 8 := by kernel_rfl
@[go_sem] theorem zeroD_105 : zeroD Tryd.prog 105 = [.v (.int .u64 0)] := by kernel_rfl
@[go_sem] theorem okT_107 : okT Tryd.prog 107 = true := by kernel_rfl
@[go_sem] theorem szOf_107 : szOf Tryd.prog 107 = 3 := by kernel_rfl
@[go_sem] theorem aggT_107 : aggT Tryd.prog 107 = true := by kernel_rfl
@[go_sem] theorem undS_107 : (Tryd.prog.underlying 107).isSome = true := by kernel_rfl
@[go_sem] theorem infS_107 : (Tryd.prog.info? 107).isSome = true := by kernel_rfl
@[go_sem] theorem ifaceT_107 : ifaceT Tryd.prog 107 = false := by kernel_rfl
@[go_sem] theorem ptrT_107 : ptrT Tryd.prog 107 = false := by kernel_rfl
@[go_sem] theorem zeroT_107 : zeroT Tryd.prog 107 = true := by kernel_rfl
@[go_sem] theorem zeroOk_107 : zeroOk Tryd.prog 107 = true := by kernel_rfl
@[go_sem] theorem bytesOf_107 : bytesOf Tryd.prog 107 = 24 := by kernel_rfl
@[go_sem] theorem zeroD_107 : zeroD Tryd.prog 107 = [.v (.pointer none), .v (.pointer none), .v (.int .u64 0)] := by kernel_rfl
@[go_sem] theorem fld_107_0 : fld Tryd.prog 107 0 = some (0, 17) := by kernel_rfl
@[go_sem] theorem fld_107_1 : fld Tryd.prog 107 1 = some (1, 104) := by kernel_rfl
@[go_sem] theorem fld_107_2 : fld Tryd.prog 107 2 = some (2, 105) := by kernel_rfl
@[go_sem] theorem okT_110 : okT Tryd.prog 110 = true := by kernel_rfl
@[go_sem] theorem szOf_110 : szOf Tryd.prog 110 = 1 := by kernel_rfl
@[go_sem] theorem aggT_110 : aggT Tryd.prog 110 = false := by kernel_rfl
@[go_sem] theorem undS_110 : (Tryd.prog.underlying 110).isSome = true := by kernel_rfl
@[go_sem] theorem infS_110 : (Tryd.prog.info? 110).isSome = true := by kernel_rfl
@[go_sem] theorem ifaceT_110 : ifaceT Tryd.prog 110 = true := by kernel_rfl
@[go_sem] theorem ptrT_110 : ptrT Tryd.prog 110 = false := by kernel_rfl
@[go_sem] theorem zeroT_110 : zeroT Tryd.prog 110 = true := by kernel_rfl
@[go_sem] theorem zeroOk_110 : zeroOk Tryd.prog 110 = true := by kernel_rfl
@[go_sem] theorem bytesOf_110 : bytesOf Tryd.prog 110 = 16 := by kernel_rfl
@[go_sem] theorem zeroD_110 : zeroD Tryd.prog 110 = [.v .nilIface] := by kernel_rfl
@[go_sem] theorem okT_112 : okT Tryd.prog 112 = true := by kernel_rfl
@[go_sem] theorem szOf_112 : szOf Tryd.prog 112 = 1 := by kernel_rfl
@[go_sem] theorem aggT_112 : aggT Tryd.prog 112 = false := by kernel_rfl
@[go_sem] theorem undS_112 : (Tryd.prog.underlying 112).isSome = true := by kernel_rfl
@[go_sem] theorem infS_112 : (Tryd.prog.info? 112).isSome = true := by kernel_rfl
@[go_sem] theorem ifaceT_112 : ifaceT Tryd.prog 112 = false := by kernel_rfl
@[go_sem] theorem ptrT_112 : ptrT Tryd.prog 112 = false := by kernel_rfl
@[go_sem] theorem zeroT_112 : zeroT Tryd.prog 112 = true := by kernel_rfl
@[go_sem] theorem zeroOk_112 : zeroOk Tryd.prog 112 = true := by kernel_rfl
@[go_sem] theorem bytesOf_112 : bytesOf Tryd.prog 112 = 1 := by kernel_rfl
@[go_sem] theorem zeroD_112 : zeroD Tryd.prog 112 = [.v (.int .u8 0)] := by kernel_rfl
@[go_sem] theorem okT_118 : okT Tryd.prog 118 = true := by kernel_rfl
@[go_sem] theorem szOf_118 : szOf Tryd.prog 118 = 1 := by kernel_rfl
@[go_sem] theorem aggT_118 : aggT Tryd.prog 118 = false := by kernel_rfl
@[go_sem] theorem undS_118 : (Tryd.prog.underlying 118).isSome = true := by kernel_rfl
@[go_sem] theorem infS_118 : (Tryd.prog.info? 118).isSome = true := by kernel_rfl
@[go_sem] theorem ifaceT_118 : ifaceT Tryd.prog 118 = false := by kernel_rfl
@[go_sem] theorem ptrT_118 : ptrT Tryd.prog 118 = true := by kernel_rfl
@[go_sem] theorem zeroT_118 : zeroT Tryd.prog 118 = true := by kernel_rfl
@[go_sem] theorem zeroOk_118 : zeroOk Tryd.prog 118 = true := by kernel_rfl
@[go_sem] theorem bytesOf_118 : bytesOf Tryd.prog 118 = 8 := by kernel_rfl
@[go_sem] theorem zeroD_118 : zeroD Tryd.prog 118 = [.v (.pointer none)] := by kernel_rfl
@[go_sem] theorem okT_135 : okT Tryd.prog 135 = true := by kernel_rfl
@[go_sem] theorem szOf_135 : szOf Tryd.prog 135 = 1 := by kernel_rfl
@[go_sem] theorem aggT_135 : aggT Tryd.prog 135 = false := by kernel_rfl
@[go_sem] theorem undS_135 : (Tryd.prog.underlying 135).isSome = true := by kernel_rfl
@[go_sem] theorem infS_135 : (Tryd.prog.info? 135).isSome = true := by kernel_rfl
@[go_sem] theorem ifaceT_135 : ifaceT Tryd.prog 135 = false := by kernel_rfl
@[go_sem] theorem ptrT_135 : ptrT Tryd.prog 135 = true := by kernel_rfl
@[go_sem] theorem zeroT_135 : zeroT Tryd.prog 135 = true := by kernel_rfl
@[go_sem] theorem zeroOk_135 : zeroOk Tryd.prog 135 = true := by kernel_rfl
@[go_sem] theorem bytesOf_135 : bytesOf Tryd.prog 135 = 8 := by kernel_rfl
@[go_sem] theorem zeroD_135 : zeroD Tryd.prog 135 = [.v (.pointer none)] := by kernel_rfl
@[go_sem] theorem okT_136 : okT Tryd.prog 136 = true := by kernel_rfl
@[go_sem] theorem szOf_136 : szOf Tryd.prog 136 = 1 := by kernel_rfl
@[go_sem] theorem aggT_136 : aggT Tryd.prog 136 = false := by kernel_rfl
@[go_sem] theorem undS_136 : (Tryd.prog.underlying 136).isSome = true := by kernel_rfl
@[go_sem] theorem infS_136 : (Tryd.prog.info? 136).isSome = true := by kernel_rfl
@[go_sem] theorem ifaceT_136 : ifaceT Tryd.prog 136 = false := by kernel_rfl
@[go_sem] theorem ptrT_136 : ptrT Tryd.prog 136 = false := by kernel_rfl
@[go_sem] theorem zeroT_136 : zeroT Tryd.prog 136 = true := by kernel_rfl
@[go_sem] theorem zeroOk_136 : zeroOk Tryd.prog 136 = true := by kernel_rfl
@[go_sem] theorem bytesOf_136 : bytesOf Tryd.prog 136 = 8 := by kernel_rfl
@[go_sem] theorem zeroD_136 : zeroD Tryd.prog 136 = [.v .nilFunc] := by kernel_rfl
@[go_sem] theorem okT_141 : okT Tryd.prog 141 = true := by kernel_rfl
@[go_sem] theorem szOf_141 : szOf Tryd.prog 141 = 1 := by kernel_rfl
@[go_sem] theorem aggT_141 : aggT Tryd.prog 141 = false := by kernel_rfl
@[go_sem] theorem undS_141 : (Tryd.prog.underlying 141).isSome = true := by kernel_rfl
@[go_sem] theorem infS_141 : (Tryd.prog.info? 141).isSome = true := by kernel_rfl
@[go_sem] theorem ifaceT_141 : ifaceT Tryd.prog 141 = false := by kernel_rfl
@[go_sem] theorem ptrT_141 : ptrT Tryd.prog 141 = false := by kernel_rfl
@[go_sem] theorem zeroT_141 : zeroT Tryd.prog 141 = true := by kernel_rfl
@[go_sem] theorem zeroOk_141 : zeroOk Tryd.prog 141 = true := by kernel_rfl
@[go_sem] theorem bytesOf_141 : bytesOf Tryd.prog 141 = 8 := by kernel_rfl
@[go_sem] theorem zeroD_141 : zeroD Tryd.prog 141 = [.v .nilFunc] := by kernel_rfl
theorem mixed : Tryd.prog.follows .mixedOrders = true := by kernel_rfl
end Go.Proofs.YtbcabejdchkpmaaDoor

namespace Go.Proofs.YtbcabejdchkpmaaDoor
open Go.RowKit

def strD (s : Str) : D := .v (sv s)
def u64D (n : Nat) : D := .v (.int .u64 (n : Int))
mutual
def encS : DSch → D
  | .mk k ws ps => .agg [.v (.int .i64 k), .sl .no (ws.map strD), .sl .no (encSs ps)]
def encSs : List DSch → List D
  | [] => []
  | p :: ps => encS p :: encSs ps
end
theorem encSs_map : ∀ l : List DSch, encSs l = l.map encS
  | [] => rfl
  | p :: l => by simp [encSs, encSs_map l]
theorem encS_eq (s : DSch) : encS s = .agg [.v (.int .i64 s.kind), .sl .no (s.words.map strD), .sl .no (s.parts.map encS)] := by
  obtain ⟨k, ws, ps⟩ := s
  simp [encS, encSs_map, DSch.kind, DSch.words, DSch.parts]
theorem closed_strs (l : List Str) : allL (fun _ => False) (l.map strD) := allL_iff.2 fun d hd => by
  obtain ⟨s, _, rfl⟩ := List.mem_map.1 hd
  trivial
mutual
theorem closed_encS : ∀ s : DSch, (encS s).closed
  | .mk k ws ps => by simp only [encS, D.closed, D.all, allL, Own.all]; exact ⟨trivial, ⟨trivial, closed_strs ws⟩, ⟨trivial, closed_encSs ps⟩, trivial⟩
theorem closed_encSs : ∀ l : List DSch, allL (fun _ => False) (encSs l)
  | [] => trivial
  | p :: ps => by simp only [encSs, allL]; exact ⟨closed_encS p, closed_encSs ps⟩
end
theorem frz_strs (l : List Str) : frzL (l.map strD) = l.map strD := by simp [frzL_map, strD, D.frz, Function.comp_def]
mutual
theorem frz_encS : ∀ s : DSch, (encS s).frz = encS s
  | .mk k ws ps => by simp only [encS, D.frz, frzL, frz_strs, frz_encSs ps]
theorem frz_encSs : ∀ l : List DSch, frzL (encSs l) = encSs l
  | [] => rfl
  | p :: ps => by simp only [encSs, frzL, frz_encS p, frz_encSs ps]
end
/-! What fits the machine's bounds. -/
mutual
def okS : DSch → Prop
  | .mk k ws ps => I64 k ∧ (∀ s ∈ ws, s.length ≤ maxLen) ∧ ws.length ≤ 140737488351232 ∧ ps.length ≤ 140737488351232 ∧ okSs ps
def okSs : List DSch → Prop
  | [] => True
  | p :: ps => okS p ∧ okSs ps
end
theorem okSs_iff : ∀ {l : List DSch}, okSs l ↔ ∀ p ∈ l, okS p
  | [] => by simp [okSs]
  | p :: l => by simp [okSs, okSs_iff (l := l)]
theorem okS_eq (s : DSch) : okS s ↔ I64 s.kind ∧ (∀ x ∈ s.words, x.length ≤ maxLen) ∧ s.words.length ≤ 140737488351232 ∧ s.parts.length ≤ 140737488351232 ∧ ∀ p ∈ s.parts, okS p := by
  obtain ⟨k, ws, ps⟩ := s
  simp only [okS, okSs_iff, DSch.kind, DSch.words, DSch.parts]
theorem IsSch.ok {w : World} {F : Nat → Prop} {s : DSch} {cs : List Value} (h : IsSch w F s cs) : okS s := by
  induction h with
  | mk h1 h2 h3 h4 h5 hA hC hP h6 h7 ih =>
    simp only [okS, okSs_iff]
    refine ⟨h1, h3, h5, h7, fun p hp => ?_⟩
    obtain ⟨i, hi, rfl⟩ := List.getElem_of_mem hp
    exact ih i _ (List.getElem?_eq_getElem hi)
section
variable {P : Program} {w : World} {η : Names} {X : Nat → Nat → Prop}
theorem rep_scalars {F : Nat → Prop} {α : Type} (g : α → Value) (h1 : ∀ a, (g a).oneCell' = true) (hX : ∀ b i, F b → X b i) {A : Option Addr} {c : Nat} {l : List α} (h : RF w F 1 A l.length (l.map g)) (hc : l.length ≤ c) (hn : l.length ≤ 140737488351232) :
    Rep P w η X (.sl .no (l.map fun a => .v (g a))) (.slice A l.length c) := by
  simp only [Rep]
  refine ⟨A, c, by rw [List.length_map], by rw [List.length_map]; exact hc, by rw [List.length_map]; omega, trivial, fun h0 => ?_⟩
  rw [List.length_map] at h0
  obtain ⟨b, o, e, hb, hr⟩ := h.2 h0
  refine ⟨b, o, 1, e, by omega, RepE.mk fun i d hd => ?_⟩
  rw [List.getElem?_map] at hd
  cases hi : l[i]? with
  | none => rw [hi] at hd; cases hd
  | some a =>
    rw [hi] at hd
    injection hd with hd
    subst hd
    have hcell := hr i (g a) (by rw [List.getElem?_map, hi]; rfl)
    rw [Nat.mul_one]
    exact ⟨by simp only [RepA], fun _ => ⟨rfl, hX _ _ hb, g a, hcell, h1 a, by simp only [Rep]⟩⟩
theorem rep_structs {F : Nat → Prop} {α : Type} (e : α → D) (z : Nat) (hz : 0 < z) (hX : ∀ b i, F b → X b i) {A : Option Addr} {c b o : Nat} {l : List α} {C : Nat → List Value} (hA : 0 < l.length → A = some ⟨b, o, none⟩ ∧ F b)
    (hC : ∀ i a, l[i]? = some a → (C i).length = z ∧ w.rangeAt b (o + i * z) (C i)) (hR : ∀ i a, l[i]? = some a → Rep P w η X (e a) (.agg (C i).toArray)) (hagg : ∀ a, (e a).isAgg = true) (hc : l.length ≤ c) (hn : l.length ≤ 140737488351232) :
    Rep P w η X (.sl .no (l.map e)) (.slice A l.length c) := by
  simp only [Rep]
  refine ⟨A, c, by rw [List.length_map], by rw [List.length_map]; exact hc, by rw [List.length_map]; omega, trivial, fun h0 => ?_⟩
  rw [List.length_map] at h0
  refine ⟨b, o, z, (hA h0).1, hz, RepE.mk fun i d hd => ?_⟩
  rw [List.getElem?_map] at hd
  cases hi : l[i]? with
  | none => rw [hi] at hd; cases hd
  | some a =>
    rw [hi] at hd
    injection hd with hd
    subst hd
    have h1 := hR i a hi
    obtain ⟨h2, h3⟩ := hC i a hi
    cases he : e a with
    | agg ds =>
      rw [he] at h1
      simp only [Rep] at h1
      obtain ⟨vs, h4, h5, h6⟩ := h1
      have : C i = vs := by
        injection h4 with h4
        have := congrArg Array.toList h4
        simpa using this
      rw [this] at h2 h3
      have hlen : ds.length = z := by rw [← h5.length, h2]
      exact ⟨by simp only [RepA]; exact ⟨hlen, RepC.mk h5 h3 (fun j _ => hX _ _ (hA h0).2) h6⟩, fun h => by simp [D.isAgg] at h⟩
    | _ => have := hagg a; rw [he] at this; simp [D.isAgg] at this
theorem encS_agg (s : DSch) : (encS s).isAgg = true := by rw [encS_eq]; rfl
theorem rep_sch {F : Nat → Prop} (hX : ∀ b i, F b → X b i) {s : DSch} {cs : List Value} (h : IsSch w F s cs) : Rep P w η X (encS s) (.agg cs.toArray) := by
  induction h with
  | mk h1 h2 h3 h4 h5 hA hC hP h6 h7 ih =>
    have r1 := rep_scalars (P := P) (η := η) sv (fun _ => rfl) hX h2 h4 h5
    have r2 := rep_structs (P := P) (η := η) encS 3 (by omega) hX hA hC ih encS_agg h6 h7
    simp only [encS, encSs_map, Rep, RepL]
    refine ⟨_, rfl, ⟨_, _, rfl, rfl, _, _, rfl, r1, _, _, rfl, r2, rfl⟩, by simp [Value.oneCell']⟩
theorem scalars_of_rep {α : Type} (g : α → Value) {own : Own} {l : List α} {y : Value} (h : Rep P w η X (.sl own (l.map fun a => .v (g a))) y) : ∃ A c, y = .slice A l.length c ∧ l.length ≤ c ∧ RF w (· < w.heap.size) 1 A l.length (l.map g) := by
  simp only [Rep] at h
  obtain ⟨A, c, rfl, h1, _, _, h2⟩ := h
  rw [List.length_map] at *
  refine ⟨A, c, rfl, h1, by simp, fun h0 => ?_⟩
  obtain ⟨b, o, z, rfl, hz, hr⟩ := h2 h0
  have hel : ∀ j a, l[j]? = some a → w.cell? ⟨b, o + j, none⟩ = some (g a) := fun j a hj => by
    have := RepE.get j hr (d := .v (g a)) (by rw [List.getElem?_map, hj]; rfl)
    obtain ⟨e1, _, x, e2, _, e3⟩ := this.2 rfl
    simp only [Rep] at e3
    rw [e1, Nat.mul_one] at e2
    rw [e2, e3]
  refine ⟨b, o, rfl, ?_, fun j u hu => ?_⟩
  · have h3 := hel 0 _ (List.getElem?_eq_getElem h0)
    exact World.block_lt_of_cell? w _ h3
  · rw [List.getElem?_map] at hu
    cases hj : l[j]? with
    | none => rw [hj] at hu; cases hu
    | some a =>
      rw [hj] at hu
      injection hu with hu
      rw [← hu]
      exact hel j a hj
theorem structs_of_rep {α : Type} (e : α → D) (hagg : ∀ a, (e a).isAgg = true) {own : Own} {l : List α} {y : Value} {z : Nat} (hw : ∀ a, (e a).width = z) (hz : 0 < z) (h : Rep P w η X (.sl own (l.map e)) y) :
    ∃ A c b o, ∃ C : Nat → List Value, y = .slice A l.length c ∧ l.length ≤ c ∧ (0 < l.length → A = some ⟨b, o, none⟩ ∧ b < w.heap.size) ∧ (∀ i a, l[i]? = some a → (C i).length = z ∧ w.rangeAt b (o + i * z) (C i)) ∧ ∀ i a, l[i]? = some a → Rep P w η X (e a) (.agg (C i).toArray) := by
  simp only [Rep] at h
  obtain ⟨A, c, rfl, h1, _, _, h2⟩ := h
  rw [List.length_map] at *
  rcases Nat.eq_zero_or_pos l.length with h0 | h0
  · have : l = [] := List.eq_nil_of_length_eq_zero h0
    subst this
    exact ⟨A, c, 0, 0, fun _ => [], rfl, h1, fun h => absurd h (by simp), fun i a ha => by simp at ha, fun i a ha => by simp at ha⟩
  obtain ⟨b, o, z', rfl, hz', hr⟩ := h2 h0
  have key : ∀ i, i < l.length → ∃ vs : List Value, vs.length = z ∧ w.rangeAt b (o + i * z) vs ∧ ∀ a, l[i]? = some a → Rep P w η X (e a) (.agg vs.toArray) := fun i hi => by
    have hel := (RepE.get i hr (d := e l[i]) (by rw [List.getElem?_map, List.getElem?_eq_getElem hi]; rfl)).cells
    have hzz : z' = z := by rw [← hel.1, hw]
    subst hzz
    obtain ⟨vs, k1, k2, k3, k4⟩ := hel.2.range
    refine ⟨vs, by rw [k1]; exact hel.1, k2, fun a ha => ?_⟩
    rw [List.getElem?_eq_getElem hi] at ha
    injection ha with ha
    subst ha
    have hg := hagg l[i]
    revert k3 hg
    cases e l[i] with
    | agg ds => intro k3 _; simp only [Rep]; exact ⟨vs, rfl, k3, k4⟩
    | _ => intro _ hg; simp [D.isAgg] at hg
  refine ⟨_, c, b, o, fun i => if hi : i < l.length then Classical.choose (key i hi) else [], rfl, h1, fun _ => ⟨rfl, ?_⟩, fun i a ha => ?_, fun i a ha => ?_⟩
  · have hk := Classical.choose_spec (key 0 h0)
    have := hk.2.1 0 (Classical.choose (key 0 h0))[0] (List.getElem?_eq_getElem (by rw [hk.1]; exact hz))
    exact World.block_lt_of_cell? w _ this
  · have hi : i < l.length := (List.getElem?_eq_some_iff.1 ha).1
    dsimp only
    rw [dif_pos hi]
    have hk := Classical.choose_spec (key i hi)
    exact ⟨hk.1, hk.2.1⟩
  · have hi : i < l.length := (List.getElem?_eq_some_iff.1 ha).1
    dsimp only
    rw [dif_pos hi]
    exact (Classical.choose_spec (key i hi)).2.2 a ha
theorem width_encS (s : DSch) : (encS s).width = 3 := by rw [encS_eq]; rfl
theorem sch_of_rep : ∀ (n : Nat) (s : DSch), s.depth ≤ n → okS s → ∀ {y : Value}, Rep P w η X (encS s) y → ∃ cs : List Value, y = .agg cs.toArray ∧ IsSch w (· < w.heap.size) s cs
  | 0, s, h, _, _, _ => by have := s.depth_pos; omega
  | n + 1, s, hd, hok, y, h => by
    have hdp : ∀ p ∈ s.parts, p.depth < s.depth := fun p hp => DSch.depth_part hp
    obtain ⟨o1, o2, o3, o4, o5⟩ := (okS_eq s).1 hok
    rw [encS_eq] at h
    simp only [Rep, RepL] at h
    obtain ⟨vs, rfl, ⟨_, _, rfl, rfl, _, _, rfl, h2, _, _, rfl, h3, rfl⟩, _⟩ := h
    have h2' := scalars_of_rep (P := P) (w := w) (η := η) (X := X) sv (own := .no) (l := s.words) (by simp only [Rep]; exact h2)
    have h3' := structs_of_rep (P := P) (w := w) (η := η) (X := X) encS encS_agg (own := .no) (l := s.parts) width_encS (by omega) (by simp only [Rep]; exact h3)
    obtain ⟨A1, c1, rfl, g1, g2⟩ := h2'
    obtain ⟨A2, c2, b, o, C, rfl, k1, k2, k3, k4⟩ := h3'
    refine ⟨_, rfl, ?_⟩
    obtain ⟨k, ws, ps⟩ := s
    refine .mk o1 g2 o2 g1 o3 k2 k3 (fun i p hp => ?_) k1 o4
    obtain ⟨cs, e1, e2⟩ := sch_of_rep n p (by have := hdp p (List.mem_of_getElem? hp); omega) (o5 p (List.mem_of_getElem? hp)) (k4 i p hp)
    have : C i = cs := by
      injection e1 with e1
      have := congrArg Array.toList e1
      simpa using this
    rw [this]
    exact e2
end
/-! ### Over memory, and over trees -/
section
variable {P : Program} {base : Nat} {S : St} {η : Names} {w : World}
theorem goes_below (h : Mem P base S η w) {w' : World} (hb : Below w.heap.size w w') : Goes P base S η w S η w' := by
  have K : Keep (fun _ => True) w η (Fix P S η) w' η (Fix P S η) := ⟨hb.size, fun b i hlt hx => ⟨hx, hb.cell (p := ⟨b, i, none⟩) hlt⟩, fun _ _ _ hx => hx, fun b cur _ hx => ⟨cur, by rw [hb.block b ((Array.getElem?_eq_some_iff.1 hx).1)]; exact hx, rfl⟩⟩
  refine ⟨⟨Nat.le_trans h.base_ hb.size, h.dead, h.fresh, h.live, h.inj, fun k b hk => ⟨(h.in_ k b hk).1, Nat.lt_of_lt_of_le (h.in_ k b hk).2 hb.size⟩, fun k t cs b h1 h2 => ?_, fun k e n b h1 h2 => ?_, h.glob.below (hb.mono h.base_)⟩, K, hb.mono h.base_⟩
  · obtain ⟨vs, k1, k2, k3⟩ := h.box k t cs b h1 h2
    exact ⟨vs, by rw [hb.block b (h.in_ k b h2).2]; exact k1, RepL.keep K (allL_true _) k2, k3⟩
  · obtain ⟨cur, k1, k2⟩ := h.row k e n b h1 h2
    exact ⟨cur, by rw [hb.block b (h.in_ k b h2).2]; exact k1, k2⟩
theorem dpure_of_gives {g : FuncId} {args : List D} {v : Value} (hent : ∀ vs w, (callFunc g vs).run P w = .ok (.enter g vs) w) (h : ∀ (w : World) (η : Names) (X : Nat → Nat → Prop) (vs : List Value), RepL P w η X args vs → Calls P g vs.toArray w (Gives v w)) : DPure P g args (.v v) :=
  fun _ _ η w vs hM hr => .inl ⟨hent _ _, (h w η _ vs hr).mono fun _ _ ⟨he, hb⟩ => ⟨.v v, _, η, v, ⟨rfl, rfl⟩, he, by simp only [Rep], goes_below hM hb⟩⟩
end
theorem empty_toList : (⟨#[]⟩ : ByteArray).toList = [] := by rw [Go.Lib.toList_data]
theorem cells_encS (s : DSch) : (encS s).cells.length = 3 := width_encS s
theorem agg_encS (s : DSch) : D.agg (encS s).cells = encS s := by rw [encS_eq]; rfl
theorem take_encS (s : DSch) : (encS s).cells.take 3 = (encS s).cells := List.take_of_length_le (by rw [cells_encS]; omega)
theorem okCell_encS (s : DSch) : (encS s).okCell = true := by rw [encS_eq]; rfl
attribute [go_sem] empty_toList strB_size cells_encS agg_encS take_encS okCell_encS strD u64D
end Go.Proofs.YtbcabejdchkpmaaDoor

namespace Go.Proofs.YtbcabejdchkpmaaDoor
open Go.RowKit
def bad1 (kd num : Int) (xl nn ni : Nat) : Prop := kd < 1 ∨ 6 < kd ∨ (kd ≠ 1 ∧ kd ≠ 2 ∧ num ≠ 0) ∨ (kd ≠ 3 ∧ kd ≠ 4 ∧ 0 < xl) ∨ (kd ≠ 5 ∧ 0 < nn) ∨ (kd ≠ 6 ∧ 0 < ni)
instance (kd num : Int) (xl nn ni : Nat) : Decidable (bad1 kd num xl nn ni) := by unfold bad1; exact inferInstance
def bad2 (kd num : Int) (xl nn ni np : Nat) (bn : Bool) : Prop := (kd = 1 ∧ num ≠ 0 ∧ num ≠ 1) ∨ (kd = 3 ∧ 64 < xl) ∨ (kd = 4 ∧ bn = false) ∨ 8 < nn ∨ 12 < ni ∨ np ≠ nn + ni
instance (kd num : Int) (xl nn ni np : Nat) (bn : Bool) : Decidable (bad2 kd num xl nn ni np bn) := by unfold bad2; exact inferInstance
def hereV (v : DVal) : Bool := (!decide (bad1 v.kind v.n v.s.length v.names.length v.ids.length) && !decide (bad2 v.kind v.n v.s.length v.names.length v.ids.length v.parts.length (nameB v.s))) && ((List.range v.names.length).all (riseOk v.names) && (List.range v.ids.length).all (idOk v.ids))
theorem getD_at {α : Type} {l : List α} {i : Nat} {d : α} (h : i < l.length) : l.getD i d = l[i] := by simp [List.getD, h]
end Go.Proofs.YtbcabejdchkpmaaDoor

namespace Go.Proofs.YtbcabejdchkpmaaDoor
open Go.RowKit
theorem arg_sch {P : Program} {w : World} {η : Names} {X : Nat → Nat → Prop} {v : DSch} {vs : List Value} (hok : okS v) (h : RepL P w η X [encS v] vs) : ∃ cs : List Value, vs = [.agg cs.toArray] ∧ IsSch w (· < w.heap.size) v cs := by
  simp only [RepL] at h
  obtain ⟨x, xs, rfl, h1, rfl⟩ := h
  obtain ⟨cs, rfl, hv⟩ := sch_of_rep v.depth v (Nat.le_refl _) hok h1
  exact ⟨cs, rfl, hv⟩
theorem dpure_sch {P : Program} {g : FuncId} {v : DSch} {r : Value} (hok : okS v) (hent : ∀ vs w, (callFunc g vs).run P w = .ok (.enter g vs) w) (h : ∀ (w : World) (cs : List Value), IsSch w (· < w.heap.size) v cs → Calls P g #[.agg cs.toArray] w (Gives r w)) : DPure P g [encS v] (.v r) :=
  dpure_of_gives hent fun w η X vs hr => by obtain ⟨cs, rfl, hv⟩ := arg_sch hok hr; exact h w cs hv
theorem sne1_2 (n : Nat) : (n + 1 = n + 2) = False := eq_false (by omega)
theorem sne1_3 (n : Nat) : (n + 1 = n + 3) = False := eq_false (by omega)
theorem sne1_4 (n : Nat) : (n + 1 = n + 4) = False := eq_false (by omega)
theorem sne2_1 (n : Nat) : (n + 2 = n + 1) = False := eq_false (by omega)
theorem sne2_3 (n : Nat) : (n + 2 = n + 3) = False := eq_false (by omega)
theorem sne2_4 (n : Nat) : (n + 2 = n + 4) = False := eq_false (by omega)
theorem sne3_1 (n : Nat) : (n + 3 = n + 1) = False := eq_false (by omega)
theorem sne3_2 (n : Nat) : (n + 3 = n + 2) = False := eq_false (by omega)
theorem sne3_4 (n : Nat) : (n + 3 = n + 4) = False := eq_false (by omega)
theorem sne4_1 (n : Nat) : (n + 4 = n + 1) = False := eq_false (by omega)
theorem sne4_2 (n : Nat) : (n + 4 = n + 2) = False := eq_false (by omega)
theorem sne4_3 (n : Nat) : (n + 4 = n + 3) = False := eq_false (by omega)
theorem sne1_0 (n : Nat) : (n + 1 = n) = False := eq_false (by omega)
theorem sne0_1 (n : Nat) : (n = n + 1) = False := eq_false (by omega)
theorem sne2_0 (n : Nat) : (n + 2 = n) = False := eq_false (by omega)
theorem sne0_2 (n : Nat) : (n = n + 2) = False := eq_false (by omega)
theorem sne3_0 (n : Nat) : (n + 3 = n) = False := eq_false (by omega)
theorem sne0_3 (n : Nat) : (n = n + 3) = False := eq_false (by omega)
theorem sne4_0 (n : Nat) : (n + 4 = n) = False := eq_false (by omega)
theorem sne0_4 (n : Nat) : (n = n + 4) = False := eq_false (by omega)
attribute [go_sem] sne1_2 sne1_3 sne1_4 sne2_1 sne2_3 sne2_4 sne3_1 sne3_2 sne3_4 sne4_1 sne4_2 sne4_3 sne1_0 sne0_1 sne2_0 sne0_2 sne3_0 sne0_3 sne4_0 sne0_4
theorem bin_beql {x y : Operand} (a b : Bool) : dbin Tryd.prog .eql 4 x y (.v (.bool a)) (.v (.bool b)) = some (True, .v (.bool (a == b))) := by
  cases a <;> cases b <;> kernel_rfl
attribute [go_sem] bin_beql
theorem strArg {P : Program} {w : World} {η : Names} {X : Nat → Nat → Prop} {own : Own} {l : List Str} {y : Value} (h : Rep P w η X (.sl own (l.map strD)) y) : ∃ A c, y = .slice A l.length c ∧ l.length ≤ c ∧ RF w (· < w.heap.size) 1 A l.length (l.map sv) := scalars_of_rep sv h
def headF (v : DVal) (s : DSch) : Bool := decide (v.kind = s.kind) && ((!decide (v.kind = 4) || decide (v.s ∈ s.words)) && (!decide (v.kind = 5) || decide (v.names = s.words)))
def atF (s : DSch) (i : Nat) : Nat := if s.kind = 6 then 0 else i
end Go.Proofs.YtbcabejdchkpmaaDoor

namespace Go.Proofs.YtbcabejdchkpmaaDoor
open Go.RowKit
theorem pfin_cell_tmp_normal {P : Program} {S : St} {f : Fm} (x : Tmp) (t : TypeId) (u : Tmp) (S' : St) (d : D) : DQ.pfin P [.cell x t, .tmp u] S d .normal f S' = dcellR P S' t (f x) (fun r => PFin S S' (.tup [r, f u]) d) := by
  rw [← onVal_cell]
  simp [DQ.pfin, dresL, dres, onVal, one]
theorem pfin_cell_tmp_ret {P : Program} {S : St} {f : Fm} (x : Tmp) (t : TypeId) (u : Tmp) (S' : St) (d : D) : DQ.pfin P [.cell x t, .tmp u] S d .ret f S' = dcellR P S' t (f x) (fun r => PFin S S' (.tup [r, f u]) d) := by
  rw [← onVal_cell]
  simp [DQ.pfin, dresL, dres, onVal, one]
attribute [go_sem] pfin_cell_tmp_normal pfin_cell_tmp_ret
abbrev DStp := Str × Nat
end Go.Proofs.YtbcabejdchkpmaaDoor

namespace Go.Proofs.YtbcabejdchkpmaaDoor
open Go.RowKit
theorem fin_cell_normal {P : Program} {S : St} {f : Fm} {K : D → St → Prop} (x : Tmp) (t : TypeId) (S' : St) : DQ.fin P [.cell x t] S K .normal f S' = dcellR P S' t (f x) (fun r => DFinT P S S' r K) := onVal_cell x t _
theorem fin_cell_ret {P : Program} {S : St} {f : Fm} {K : D → St → Prop} (x : Tmp) (t : TypeId) (S' : St) : DQ.fin P [.cell x t] S K .ret f S' = dcellR P S' t (f x) (fun r => DFinT P S S' r K) := onVal_cell x t _
theorem fin_cell_tmp_normal {P : Program} {S : St} {f : Fm} {K : D → St → Prop} (x : Tmp) (t : TypeId) (u : Tmp) (S' : St) : DQ.fin P [.cell x t, .tmp u] S K .normal f S' = dcellR P S' t (f x) (fun r => DFinT P S S' (.tup [r, f u]) K) := by
  rw [← onVal_cell]
  simp [DQ.fin, dresL, dres, onVal, one]
theorem fin_cell_tmp_ret {P : Program} {S : St} {f : Fm} {K : D → St → Prop} (x : Tmp) (t : TypeId) (u : Tmp) (S' : St) : DQ.fin P [.cell x t, .tmp u] S K .ret f S' = dcellR P S' t (f x) (fun r => DFinT P S S' (.tup [r, f u]) K) := by
  rw [← onVal_cell]
  simp [DQ.fin, dresL, dres, onVal, one]
attribute [go_sem] fin_cell_normal fin_cell_ret fin_cell_tmp_normal fin_cell_tmp_ret
end Go.Proofs.YtbcabejdchkpmaaDoor

namespace Go.Proofs.YtbcabejdchkpmaaDoor
open Go.RowKit
theorem fin_tmp_normal {P : Program} {S : St} {f : Fm} {K : D → St → Prop} (t : Tmp) (S' : St) : DQ.fin P [.tmp t] S K .normal f S' = DFinT P S S' (f t) K := by simp [DQ.fin, dresL, dres, onVal, one]
theorem fin_tmp_ret {P : Program} {S : St} {f : Fm} {K : D → St → Prop} (t : Tmp) (S' : St) : DQ.fin P [.tmp t] S K .ret f S' = DFinT P S S' (f t) K := by simp [DQ.fin, dresL, dres, onVal, one]
attribute [go_sem] fin_tmp_normal fin_tmp_ret
end Go.Proofs.YtbcabejdchkpmaaDoor

namespace Go.Proofs.YtbcabejdchkpmaaDoor
open Go.RowKit
theorem sv_beq (a b : Str) : ((strB a).toList == (strB b).toList) = decide (a = b) := by
  rw [Bool.eq_iff_iff]; simp [strB, Go.Lib.toList_data]
end Go.Proofs.YtbcabejdchkpmaaDoor

namespace Go.Proofs.YtbcabejdchkpmaaDoor
open Go.RowKit
theorem greatS_d (v : DSch) (hok : okS v) : DPure Tryd.prog 23 [encS v] (.v (.bool (decide (roomS 12 v 300 < 0)))) := dpure_sch hok (fun _ _ => by kernel_rfl) fun w cs h => greatS_calls v cs w h
theorem schRight_d (v : DSch) (hok : okS v) : DPure Tryd.prog 56 [encS v] (.v (.bool (rightS 5 v))) := dpure_sch hok (fun _ _ => by kernel_rfl) fun w cs h => schRightP_calls v cs w h
theorem refSchRight_d (v : DSch) (hok : okS v) (hd : v.depth ≤ 1000000) : DPure Tryd.prog 26 [encS v] (.v (.bool (rightS 5 v))) := dpure_sch hok (fun _ _ => by kernel_rfl) fun w cs h => refRight_calls 1000000 v cs w hd (Nat.le_refl _) h
theorem awake09_d : DPure Tryd.prog 24 [] (.v (.bool true)) :=
  dpure_of_gives (fun _ _ => by kernel_rfl) fun w η X vs hr => by
    simp only [RepL] at hr
    subst hr
    exact awake09_calls w
end Go.Proofs.YtbcabejdchkpmaaDoor

namespace Go.Proofs.YtbcabejdchkpmaaDoor
open Go.RowKit

theorem ob_hit {S : St} {o : Ob} {k : Nat} (h : k = S.next) : (S.add o).ob k = some o := by rw [add_ob, if_pos h]
theorem ob_skip {S : St} {o : Ob} {k : Nat} (h : k ≠ S.next) : (S.add o).ob k = S.ob k := by rw [add_ob, if_neg h]
theorem ob_set {S : St} {o : Ob} {k j : Nat} (h : j = k) : (S.set k o).ob j = some o := by rw [set_ob, if_pos h]
theorem ob_old {S : St} {o : Ob} {k j : Nat} (h : j ≠ k) : (S.set k o).ob j = S.ob j := by rw [set_ob, if_neg h]
theorem drop_next (S : St) (g : Nat) : (S.drop g).next = S.next := Eq.trans (Eq.refl _) (Eq.refl _)
theorem ob_drop {S : St} {g k : Nat} (h : k ≠ g) : (S.drop g).ob k = S.ob k := by simp only [St.drop, if_neg h]
theorem int_zero : ((0 : Nat) : Int) = 0 := Eq.trans (Eq.refl _) (Eq.refl _)
attribute [go_sem] ob_hit ob_skip ob_set ob_old ob_drop drop_next getD_map Int.natCast_nonneg int_zero beq_self_eq_true Int.toNat_zero List.range_zero List.mem_cons List.not_mem_nil or_false forall_eq forall_eq_or_imp false_implies implies_true Option.isSome_some bnd or_true Int.toNat_one Int.le_refl ge_iff_le gt_iff_lt Nat.sub_zero
theorem cells_win_ (k off n c : Nat) : (D.win k off n c).cells = [D.win k off n c] := Eq.trans (Eq.refl _) (Eq.refl _)
theorem okCell_win_ (k off n c : Nat) : (D.win k off n c).okCell = true := Eq.trans (Eq.refl _) (Eq.refl _)
attribute [go_sem] cells_win_ okCell_win_
/-! What is written. -/
def dstOk (W : Nat → Bool) : Option Tmp → Bool
  | none => true
  | some t => W t
def wrOk (W : Nat → Bool) : Code → Bool
  | .region _ ops _ => ops.all fun o => dstOk W o.dst
  | .seq x y => wrOk W x && wrOk W y
  | .cond _ x y => wrOk W x && wrOk W y
  | .block _ c => wrOk W c
  | .loop c => wrOk W c
  | _ => true
def Off (W : Nat → Bool) (f f' : Fm) : Prop := ∀ t, W t = false → f' t = f t
theorem Off.refl (W : Nat → Bool) (f : Fm) : Off W f f := fun _ _ => rfl
theorem Off.trans {W : Nat → Bool} {f g h : Fm} (a : Off W f g) (b : Off W g h) : Off W f h := fun t ht => (b t ht).trans (a t ht)
theorem Off.put {W : Nat → Bool} {f g : Fm} (a : Off W f g) {dst : Option Tmp} (hd : dstOk W dst = true) (d : D) : Off W f (put g dst d) := fun t ht => by
  rw [put_same (fun e => by subst e; simp only [dstOk] at hd; rw [hd] at ht; cases ht)]
  exact a t ht
theorem St.WF.add {S : St} (h : S.WF) (o : Ob) : (S.add o).WF := fun k hk => by
  have hk' : S.next + 1 ≤ k := hk
  simp only [St.add]
  rw [if_neg (by omega)]
  exact h k (by omega)
theorem St.WF.set {S : St} (h : S.WF) {k : Nat} (hk : k < S.next) (o : Ob) : (S.set k o).WF := fun j hj => by
  have hj' : S.next ≤ j := hj
  simp only [St.set]
  rw [if_neg (by omega)]
  exact h j hj'
theorem St.WF.drop {S : St} (h : S.WF) (g : Nat) : (S.drop g).WF := fun j hj => by
  have hj' : S.next ≤ j := hj
  simp only [St.drop]
  split
  · rfl
  · exact h j hj'
theorem St.WF.leave {S : St} (h : S.WF) (o : Own) : (S.leave o).WF := by
  cases o with
  | row g => exact h.drop g
  | no => exact h
  | full => exact h
theorem St.WF.grow {S : St} (h : S.WF) (o : Own) (e : TypeId) (n : Nat) : (S.grow o e n).WF := (h.leave o).add _
theorem St.WF.keep {S : St} (h : S.WF) {n : Nat} (hn : S.next ≤ n) : (St.mk n S.ob).WF := fun k hk => h k (Nat.le_trans hn hk)
theorem St.Sub.keep {S T : St} (h : S.Sub T) {n : Nat} (hn : T.next ≤ n) : S.Sub ⟨n, T.ob⟩ := ⟨Nat.le_trans h.next hn, h.ob⟩
theorem St.Sub.trans {A B C : St} (h : A.Sub B) (k : B.Sub C) : A.Sub C := ⟨Nat.le_trans h.next k.next, fun i o hi => k.ob i o (h.ob i o hi)⟩
theorem DCalls.wf {P : Program} {g : FuncId} {args : List D} {S : St} {K : D → St → Prop} (h : DCalls P g args S K) : DCalls P g args S fun d S' => K d S' ∧ S'.WF := fun base η w vs hM hr => by
  rcases h base η w vs hM hr with ⟨h1, h2⟩ | ⟨d, S', η', v, w', h1, h2, h3, h4⟩
  · exact .inl ⟨h1, h2.mono fun _ _ ⟨d, S', η', v, h1, h2, h3, h4⟩ => ⟨d, S', η', v, ⟨h1, h4.mem.fresh⟩, h2, h3, h4⟩⟩
  · exact .inr ⟨d, S', η', v, w', h1, ⟨h2, h4.mem.fresh⟩, h3, h4⟩
theorem DRun.wf {P : Program} {run : List Value → Sem Value} {args : List D} {S : St} {K : D → St → Prop} (h : DRun P run args S K) : DRun P run args S fun d S' => K d S' ∧ S'.WF := fun base η w vs hM hr => by
  obtain ⟨d, S', η', v, w', h1, h2, h3, h4⟩ := h base η w vs hM hr
  exact ⟨d, S', η', v, w', h1, ⟨h2, h4.mem.fresh⟩, h3, h4⟩
theorem onVal_and {o : Option (Prop × D)} {K : D → Prop} {p : Prop} (hp : p) (h : onVal o K) : onVal o fun d => K d ∧ p := onVal_mono (fun _ hd => ⟨hd, hp⟩) h
section
variable {P : Program} {W : Nat → Bool}
theorem dop_more {f : Fm} {S : St} {ty : TypeId} {op : Op} {K : D → St → Prop} (hS : S.WF) (ho : dop P f S ty op K) : dop P f S ty op fun d S' => K d S' ∧ S'.WF := by
  cases op with
  | alloc t => simp only [dop] at *; exact ⟨ho.1, ho.2, hS.add _⟩
  | box t x => simp only [dop] at *; exact ⟨ho.1, ho.2, hS.add _⟩
  | store t x y =>
    simp only [dop] at *
    split at ho
    · split at ho
      · rename_i k off _ _ t' cs hk
        exact ⟨ho.1, ho.2.1, ho.2.2.1, ho.2.2.2.1, ho.2.2.2.2, hS.set (hS.lt hk) _⟩
      · exact ho
    · exact ho
  | call cl =>
    obtain ⟨callee, args, ts⟩ := cl
    cases callee with
    | value x =>
      simp only [dop] at *
      split at ho
      · exact ho.wf
      · exact ho
    | invoke r m =>
      simp only [dop] at *
      split at ho
      · obtain ⟨g, d', h1, h2⟩ := ho
        exact ⟨g, d', h1, h2.wf⟩
      · exact ho
    | builtin b =>
      by_cases hb : b = .append
      · subst hb
        simp only [dop] at *
        split at ho
        · split at ho
          · rcases ho with ⟨k1, k2, k3, k4, k5, k6, k7, k8⟩ | ⟨k1, k2, k3, k4, k5, k6, k7, k8, k9, k10⟩ | ho
            · exact .inl ⟨k1, k2, k3, k4, k5, k6, k7, k8, hS.grow _ _ _⟩
            · exact .inr (.inl ⟨k1, k2, k3, k4, k5, k6, k7, k8, k9, fun c zs e1 e2 => ⟨k10 c zs e1 e2, hS.add _⟩⟩)
            · exact .inr (.inr ho.wf)
          · exact ho
        · exact ho.wf
        · exact ho
      · cases b <;> first | exact absurd rfl hb | (simp only [dop] at *; exact onVal_and hS ho) | exact DRun.wf ho
  | makeSlice t x y => exact DRun.wf ho
  | typeAssert x xt t ok => exact DRun.wf ho
  | lookup t x i ok => exact DRun.wf ho
  | makeMap t r => exact DRun.wf ho
  | mapUpdate t m k x => exact (DRun.wf ho).mono fun d S' hd => ⟨hd.1.1, hd.1.2, hd.2⟩
  | insert t m k x => exact (DRun.wf ho).mono fun d S' hd => ⟨hd.1.1, hd.1.2, hd.2⟩
  | _ => simp only [dop] at *; exact onVal_and hS ho
theorem dops_more {ops : Array Oper} {Q : Fm → St → Prop} : ∀ (l : List Oper), (∀ o ∈ l, dstOk W o.dst = true) → ∀ {f : Fm} {S : St}, S.WF → dops P ops Q l f S → dops P ops (fun f' S' => Q f' S' ∧ S'.WF ∧ Off W f f') l f S
  | [], _, f, S, hS, h => ⟨h, hS, Off.refl W f⟩
  | o :: l, hw, f, S, hS, h => by
    unfold dops at *
    have h1 := hw o (by simp)
    have h2 : ∀ o' ∈ l, dstOk W o'.dst = true := fun o' ho => hw o' (by simp [ho])
    refine dwanted_mono (fun hy => ?_) (fun hn => ?_) h
    · refine dop_mono (fun d S' hk => ?_) (dop_more hS hy)
      refine dops_mono (fun f' S'' hq => ?_) l (dops_more l h2 hk.2 hk.1)
      exact ⟨hq.1, hq.2.1, (Off.put (Off.refl W f) h1 d).trans hq.2.2⟩
    · refine dops_mono (fun f' S'' hq => ?_) l (dops_more l h2 hS hn)
      exact ⟨hq.1, hq.2.1, (Off.put (Off.refl W f) h1 _).trans hq.2.2⟩
theorem dhead_more {ops : Array Oper} {S : St} (hS : S.WF) {Q : Fm → St → Prop} : ∀ (l : List Oper), (∀ o ∈ l, dstOk W o.dst = true) → ∀ {f : Fm} {u : Option Ob}, dhead P ops S Q l f u → dhead P ops S (fun f' S' => Q f' S' ∧ S'.WF ∧ Off W f f') l f u
  | [], _, f, u, h => ⟨h, (by cases u with | none => exact hS | some b => exact hS.add b), Off.refl W f⟩
  | o :: l, hw, f, u, h => by
    unfold dhead at *
    have h1 := hw o (by simp)
    have h2 : ∀ o' ∈ l, dstOk W o'.dst = true := fun o' ho => hw o' (by simp [ho])
    have go : ∀ (d : D) (u' : Option Ob), dhead P ops S Q l (put f o.dst d) u' → dhead P ops S (fun f' S' => Q f' S' ∧ S'.WF ∧ Off W f f') l (put f o.dst d) u' := fun d u' hd =>
      dhead_mono (fun f' S' hq => ⟨hq.1, hq.2.1, (Off.put (Off.refl W f) h1 d).trans hq.2.2⟩) l (dhead_more hS l h2 hd)
    split at h
    · exact hop_mono (fun d u' hd => go d u' hd) h
    · exact dwanted_mono (fun hq => dquiet_mono (fun d hd => go d u hd) hq) (go _ u) h
theorem sAny_more {ops : Array Oper} {md : Region.Mode} {Zs : St → Prop} {Q : Fm → St → Prop} (hw : ∀ (j : Nat) (o : Oper), ops[j]? = some o → dstOk W o.dst = true) : ∀ (fuel : Nat) (L : Array Bool) {f : Fm} {S : St}, S.WF → sAny P md ops Zs Q fuel L f S → sAny P md ops Zs (fun f' S' => Q f' S' ∧ S'.WF ∧ Off W f f') fuel L f S
  | 0, _, f, _, hS, k => ⟨k.1, k.2, hS, Off.refl W f⟩
  | n + 1, L, f, S, hS, k => by
    refine ⟨fun e => ⟨k.1 e, hS, Off.refl W f⟩, fun i hi => ?_⟩
    have h2 := k.2 i hi
    unfold sOp at *
    cases ho : ops[i]? with
    | none => rw [ho] at h2; exact sAny_more hw n _ hS h2
    | some o =>
      rw [ho] at h2
      have h1 := hw i o ho
      have go : ∀ d (S' : St), S'.WF → sAny P md ops Zs Q n (L.setIfInBounds i true) (put f o.dst d) S' → sAny P md ops Zs (fun f' S' => Q f' S' ∧ S'.WF ∧ Off W f f') n (L.setIfInBounds i true) (put f o.dst d) S' := fun d S' hS' hk =>
        sAny_mono (fun f' S' hq => ⟨hq.1, hq.2.1, (Off.put (Off.refl W f) h1 d).trans hq.2.2⟩) _ _ (sAny_more hw n _ hS' hk)
      rcases h2 with ⟨d, e1, e2⟩ | ⟨e1, e2⟩
      · exact .inl ⟨d, e1, go d S hS e2⟩
      · exact .inr ⟨e1, dop_mono (fun d S' hk => ⟨hk.1.1, go d S' hk.2 hk.1.2⟩) (dop_more hS e2)⟩
theorem dwp_more : ∀ (c : Code) {Q : DQ} {f : Fm} {S : St}, wrOk W c = true → S.WF → dwp P c Q f S → dwp P c (fun e f' S' => Q e f' S' ∧ S'.WF ∧ Off W f f') f S := by
  intro c
  induction c with
  | region id ops draw =>
    intro Q f S hw hS h
    have hw' : ∀ o ∈ ops.toList, dstOk W o.dst = true := fun o ho => Array.all_eq_true_iff_forall_mem.1 hw o (by simpa using ho)
    cases draw with
    | false => exact dops_more _ hw' hS h
    | true =>
      rcases h with ⟨n, h1, h2⟩ | ⟨Zs, n, h1, h2, h3⟩
      rotate_left
      · refine .inr ⟨Zs, n, h1, h2, sAny_mono (fun f' S' hq => ?_) _ _ (sAny_more (W := W) (fun j o ho => hw' o (by
          have := List.mem_of_getElem? (show (ops.toList.take n)[j]? = some o by simpa using ho)
          exact List.mem_of_mem_take this)) _ _ hS h3)⟩
        refine dops_mono (fun f'' S'' hk => ?_) _ (dops_more (W := W) _ (fun o ho => hw' o (List.mem_of_mem_drop ho)) hq.2.1 hq.1)
        exact ⟨hk.1, hk.2.1, hq.2.2.trans hk.2.2⟩
      refine .inl ⟨n, h1, dhead_mono (fun f' S' hq => ?_) _ (dhead_more (W := W) hS _ (fun o ho => hw' o (List.mem_of_mem_take ho)) h2)⟩
      refine dops_mono (fun f'' S'' hk => ?_) _ (dops_more (W := W) _ (fun o ho => hw' o (List.mem_of_mem_drop ho)) hq.2.1 hq.1)
      exact ⟨hk.1, hk.2.1, hq.2.2.trans hk.2.2⟩
  | seq x y ihx ihy =>
    intro Q f S hw hS h
    simp only [wrOk, Bool.and_eq_true] at hw
    refine dwp_mono x (fun e f2 S2 hq => ?_) (ihx hw.1 hS h)
    cases e with
    | normal =>
      refine dwp_mono y (fun e3 f3 S3 h3 => ?_) (ihy (Q := Q) hw.2 hq.2.1 hq.1)
      exact ⟨h3.1, h3.2.1, hq.2.2.trans h3.2.2⟩
    | exit i => exact hq
    | ret => exact hq
  | cond g x y ihx ihy =>
    intro Q f S hw hS h
    simp only [wrOk, Bool.and_eq_true] at hw
    unfold dwp at h ⊢
    generalize ev f g = u at h ⊢
    cases u with
    | v u => cases u with
      | bool b => exact ⟨fun e => ihx hw.1 hS (h.1 e), fun e => ihy hw.2 hS (h.2 e)⟩
      | _ => exact h
    | _ => exact h
  | block id c ih =>
    intro Q f S hw hS h
    refine dwp_mono c (fun e f2 S2 hq => ?_) (ih hw hS h)
    cases e with
    | normal => exact hq
    | ret => exact hq
    | exit i =>
      simp only [DQ.block] at *
      cases hb : Nat.beq i id with
      | true => rw [hb] at hq; exact hq
      | false => rw [hb] at hq; exact hq
  | loop c ih =>
    intro Q f S hw hS h
    obtain ⟨I, μ, h0, hr⟩ := h
    refine ⟨fun g T => I g T ∧ T.WF ∧ Off W f g, μ, ⟨h0, hS, Off.refl W f⟩, fun g T ⟨hI, hT, hg⟩ => ?_⟩
    refine dwp_mono c (fun e f2 S2 hq => ?_) (ih hw hT (hr g T hI))
    obtain ⟨hq, hwf, hoff⟩ := hq
    cases e with
    | normal =>
      obtain ⟨S'', ⟨s1, s2⟩, s3, s4⟩ := hq
      refine ⟨S'', ⟨s1, s2⟩, ⟨s3, fun k hk => ?_, hg.trans hoff⟩, s4⟩
      cases ho : S''.ob k with
      | none => rfl
      | some o => have := s2 k o ho; rw [hwf k (by omega)] at this; cases this
    | exit i => exact ⟨hq, hwf, hg.trans hoff⟩
    | ret => exact ⟨hq, hwf, hg.trans hoff⟩
  | skip => intro Q f S _ hS k; exact ⟨k, hS, Off.refl W f⟩
  | label l => intro Q f S _ hS k; exact ⟨k, hS, Off.refl W f⟩
  | exit i => intro Q f S _ hS k; exact ⟨k, hS, Off.refl W f⟩
  | ret => intro Q f S _ hS k; exact ⟨k, hS, Off.refl W f⟩
  | rangeFunc x ps aa b _ _ => intro Q f S _ _ k; exact k.elim
  | scope c _ => intro Q f S _ _ k; exact k.elim
  | goto l => intro Q f S _ _ k; exact k.elim
  | refuse s => intro Q f S _ _ k; exact k.elim
def dnextR (I : Nat → Fm → St → Prop) (m : Nat) (f' : Fm) (S' : St) : Prop := ∃ (m' : Nat) (ob : Nat → Option Ob), m' < m ∧ (∀ k o, ob k = some o → S'.ob k = some o) ∧ I m' f' ⟨S'.next, ob⟩
theorem least_of {p : Nat → Prop} (h : ∃ n, p n) : ∃ n, p n ∧ ∀ m, p m → n ≤ m := by
  obtain ⟨n, hn⟩ := h
  induction n using Nat.strongRecOn with
  | _ n ih =>
    by_cases hx : ∃ m, m < n ∧ p m
    · obtain ⟨m, h1, h2⟩ := hx
      exact ih m h1 h2
    · refine ⟨n, hn, fun m hm => ?_⟩
      rcases Nat.lt_or_ge m n with h1 | h1
      · exact absurd ⟨m, h1, hm⟩ hx
      · exact h1
theorem dloop_down {c : Code} {Q : DQ} {f : Fm} {S : St} (W : Nat → Bool) (hW : wrOk W c = true) (hS : S.WF) (I : Nat → Fm → St → Prop) (m : Nat) (h0 : I m f S)
    (hr : ∀ m g T, T.WF → Off W f g → I m g T → dwp P c (DQ.then (dnextR I m) Q) g T) : DLoop (dwp P c) Q f S := by
  classical
  let J : Fm → St → Nat → Prop := fun g T m => I m g T ∧ T.WF ∧ Off W f g
  refine ⟨fun g T => ∃ m, J g T m, fun g T => if h : ∃ m, J g T m then Classical.choose (least_of h) else 0, ⟨m, h0, hS, Off.refl W f⟩, fun g T hI => ?_⟩
  have hf := (Classical.choose_spec (least_of hI)).1
  obtain ⟨h1, h2, h3⟩ := hf
  refine dwp_mono c (fun e f2 S2 hq => ?_) (dwp_more (W := W) c hW h2 (hr _ g T h2 h3 h1))
  obtain ⟨hq, hwf, hoff⟩ := hq
  cases e with
  | normal =>
    obtain ⟨m', ob, k1, k2, k3⟩ := hq
    have hw2 : (St.mk S2.next ob).WF := fun k hk => by
      cases ho : ob k with
      | none => exact ho
      | some o => have := k2 k o ho; rw [hwf k hk] at this; cases this
    have hj : J f2 ⟨S2.next, ob⟩ m' := ⟨k3, hw2, h3.trans hoff⟩
    refine ⟨⟨S2.next, ob⟩, ⟨rfl, k2⟩, ⟨m', hj⟩, ?_⟩
    show (if h : ∃ m, J f2 ⟨S2.next, ob⟩ m then Classical.choose (least_of h) else 0) < (if h : ∃ m, J g T m then Classical.choose (least_of h) else 0)
    rw [dif_pos ⟨m', hj⟩, dif_pos hI]
    exact Nat.lt_of_le_of_lt ((Classical.choose_spec (least_of ⟨m', hj⟩)).2 m' hj) k1
  | exit i => exact hq
  | ret => exact hq
def dnextU (I : Nat → Fm → St → Prop) (n i : Nat) (f' : Fm) (S' : St) : Prop := i < n ∧ ∃ ob : Nat → Option Ob, (∀ k o, ob k = some o → S'.ob k = some o) ∧ I (i + 1) f' ⟨S'.next, ob⟩
theorem dloop_up {c : Code} {Q : DQ} {f : Fm} {S : St} (W : Nat → Bool) (hW : wrOk W c = true) (hS : S.WF) (n : Nat) (I : Nat → Fm → St → Prop) (h0 : I 0 f S)
    (hr : ∀ i g T, T.WF → Off W f g → I i g T → dwp P c (DQ.then (dnextU I n i) Q) g T) : DLoop (dwp P c) Q f S := by
  refine dloop_down W hW hS (fun m g T => ∃ i, m = n - i ∧ I i g T) (n - 0) ⟨0, rfl, h0⟩ fun m g T hT hg ⟨i, hm, hI⟩ => ?_
  subst hm
  refine dwp_mono c (fun e f2 S2 hq => ?_) (hr i g T hT hg hI)
  cases e with
  | normal =>
    obtain ⟨k1, ob, k2, k3⟩ := hq
    exact ⟨n - (i + 1), ob, by omega, k2, i + 1, rfl, k3⟩
  | exit i => exact hq
  | ret => exact hq
def dnextS (S : St) (I : Nat → Fm → Prop) (n i : Nat) (f' : Fm) (S' : St) : Prop := i < n ∧ S.Sub S' ∧ I (i + 1) f'
theorem dloop_st {c : Code} {Q : DQ} {f : Fm} {S : St} (W : Nat → Bool) (hW : wrOk W c = true) (hS : S.WF) (n : Nat) (I : Nat → Fm → Prop) (h0 : I 0 f)
    (hr : ∀ i g tn, S.next ≤ tn → (St.mk tn S.ob).WF → Off W f g → I i g → dwp P c (DQ.then (dnextS S I n i) Q) g ⟨tn, S.ob⟩) : DLoop (dwp P c) Q f S := by
  refine dloop_up W hW hS n (fun i g T => S.next ≤ T.next ∧ T.ob = S.ob ∧ I i g) ⟨Nat.le_refl _, rfl, h0⟩ fun i g T hT hg ⟨h1, h2, h3⟩ => ?_
  obtain ⟨tn, tob⟩ := T
  have h2' : tob = S.ob := h2
  subst h2'
  refine dwp_mono c (fun e f2 S2 hq => ?_) (hr i g tn h1 hT hg h3)
  cases e with
  | normal => exact ⟨hq.1, S.ob, hq.2.1.ob, hq.2.1.next, rfl, hq.2.2⟩
  | exit i => exact hq
  | ret => exact hq
/-! A row that grows. -/
def rowOf (S : St) (own : Own) (e : TypeId) (n : Nat) : Nat → Option Ob := fun k => match own with
  | .row g => if k = g then some (.row e n) else S.ob k
  | _ => S.ob k
def RowOk (lo : Nat) (S : St) (own : Own) (n : Nat) : Prop := own = .full ∨ ∃ g, own = .row g ∧ lo ≤ g ∧ S.ob g = none ∧ g < n
theorem rowOf_some {lo : Nat} {S : St} {own : Own} {n : Nat} (h : RowOk lo S own n) {e : TypeId} {m k : Nat} {o : Ob} (hk : S.ob k = some o) : rowOf S own e m k = some o := by
  rcases h with rfl | ⟨g, rfl, _, h1, _⟩
  · exact hk
  · have : k ≠ g := fun e => by subst e; rw [h1] at hk; cases hk
    show (if k = g then _ else _) = _
    rw [if_neg this]
    exact hk
theorem RowOk.sub {lo : Nat} {S : St} {own : Own} {e : TypeId} {m n : Nat} (h : RowOk lo S own n) (hn : S.next ≤ n) : S.Sub ⟨n, rowOf S own e m⟩ := ⟨hn, fun k o hk => rowOf_some h hk⟩
theorem leave_next (S : St) (own : Own) : (S.leave own).next = S.next := by cases own <;> rfl
theorem aI {a b : Prop} (h : b) (ha : a := by with_reducible first | omega | assumption | rfl) : a ∧ b := ⟨ha, h⟩
theorem nx : (∀ (S : St) (o : Ob), (S.add o).next = S.next + 1) ∧ (∀ (S : St) (k : Nat) (o : Ob), (S.set k o).next = S.next) ∧ (∀ (S : St) (own : Own) (e : TypeId) (n : Nat), (S.grow own e n).next = S.next + 1) ∧ (∀ (S : St) (own : Own), (S.leave own).next = S.next) ∧ (∀ (S : St) (g : Nat), (S.drop g).next = S.next) ∧ (∀ (α β : Type) (f : α → β) (l : List α), (l.map f).length = l.length) :=
  ⟨add_next, set_next, grow_next, leave_next, drop_next, fun _ _ f l => List.length_map ..⟩
abbrev RowOk.lo {lo : Nat} {S : St} {own : Own} {n : Nat} (_ : RowOk lo S own n) : Nat := lo
end
end Go.Proofs.YtbcabejdchkpmaaDoor

namespace Go.Proofs.YtbcabejdchkpmaaDoor
open Go.ChangeShapes Go.WideShapes Go.RowKit
theorem door_own : ownKnob Tryd.prog.godebug = none := by kernel_rfl
theorem door_laidOut : laidOutB Tryd.prog = true := by kernel_rfl
theorem door_et : Tryd.prog.globalNamed "errors.errorType" = some 0 := by kernel_rfl
theorem door_rt : (Tryd.prog.cutTypes.find? (·.1 == "internal/reflectlite.rtype")).map (·.2) = some 122 := by kernel_rfl
theorem door_row : ((List.range Tryd.prog.types.size).filter fun t => Tryd.prog.rowNamed t [101, 114, 114, 111, 114]) = [35] := by kernel_rfl
abbrev doorLaid {H : Type} : List (String × DataW H) := [("errors.errorType", Rows.laid_errors_errorType)]
theorem handle_of_laid {W : World} (h : laidMetH Tryd.prog doorLaid W) : W.cell? ⟨0, 0, none⟩ = some (.iface 122 (.agg #[.pointer (some ⟨1, 35, none⟩)])) := by
  have h' : laidMet Tryd.prog [] W ∧ handlesMet Tryd.prog doorLaid W := h
  obtain ⟨name, u, ty, e1, e2, e3, e4, e5⟩ := h'.2 _ (List.mem_singleton.2 rfl)
  have en : name = [101, 114, 114, 111, 114] := (Option.some.inj e1).symm
  subst en
  obtain rfl := Option.some.inj (door_rt.symm.trans e2)
  have hm : ty ∈ (List.range Tryd.prog.types.size).filter fun t => Tryd.prog.rowNamed t [101, 114, 114, 111, 114] := List.mem_filter.2 ⟨List.mem_range.2 e3, e4⟩
  rw [door_row] at hm
  obtain rfl := List.mem_singleton.1 hm
  have hh : typeHandle Tryd.prog 35 = .pointer (some ⟨1, 35, none⟩) := by kernel_rfl
  rw [hh] at e5
  simpa using World.var?_cell door_et e5 0
theorem glob_of_laid {W : World} (h : laidMetH Tryd.prog doorLaid W) : GlobOk W.heap.size W := fun p hp => by
  have hc := handle_of_laid h
  have e : p = (0, .iface 122 (.agg #[.pointer (some ⟨1, 35, none⟩)])) := List.mem_singleton.1 hp
  subst e
  refine ⟨?_, hc⟩
  rcases Nat.lt_or_ge 0 W.heap.size with h0 | h0
  · exact h0
  · exact absurd hc (by simp [World.cell?, Array.getElem?_eq_none h0])
def door_st : St := ⟨0, fun _ => none⟩
section
variable {P : Program}
theorem door_mem (w : World) (hg : GlobOk w.heap.size w) : Mem P w.heap.size door_st (fun _ => none) w := ⟨Nat.le_refl _, fun _ _ => rfl, fun _ _ => rfl, (fun _ _ _ h => by cases h), (fun _ _ _ h => by cases h), (fun _ _ h => by cases h), (fun _ _ _ _ h => by cases h), (fun _ _ _ _ h => by cases h), hg⟩
theorem fix_nilD (b i : Nat) : Fix P door_st (fun _ => none) b i := fun _ _ h => by cases h
theorem door_gives {g : FuncId} {args : List D} {v : Value} (h : DPure P g args (.v v)) {w : World} {vs : List Value} (hr : RepL P w (fun _ => none) (Fix P door_st fun _ => none) args vs) (hent : ∀ vs w, (callFunc g vs).run P w = .ok (.enter g vs) w := by intro _ _; kernel_rfl) (hg : GlobOk w.heap.size w) : Calls P g vs.toArray w (Gives v w) := by
  rcases h door_st w.heap.size _ w vs (door_mem w hg) hr with ⟨_, k⟩ | ⟨d, S', η', u, w', k, _⟩
  · refine k.mono fun _ _ ⟨d, S', η', u, ⟨h1, _⟩, h2, h3, h4⟩ => ?_
    subst h1
    simp only [Rep] at h3
    subst h3
    exact ⟨h2, h4.below⟩
  · rw [hent] at k
    injection k with k
    cases k
end
noncomputable def laidWorld (os : Os) : World :=
  let w0 := World.holding Tryd.prog os ⟨#[], #[], []⟩
  { w0 with heap := w0.heap.modify 0 fun
      | .cells _ t frozen => .cells #[.iface 122 (.agg #[.pointer (some ⟨1, 35, none⟩)])] t frozen
      | o => o }
theorem laidWorld_met (os : Os) (args : Array Value) : laidMetH Tryd.prog doorLaid ((laidWorld os).forCall (fun _ _ => 0) ⟨#[], args, []⟩).memory :=
  laidMetH_of_parts (laidMet_nil _ _) (by kernel_rfl)
end Go.Proofs.YtbcabejdchkpmaaDoor

namespace Go.Proofs.YtbcabejdchkpmaaDoor
open Go.RowKit

mutual
def D.thaw (k : Nat) (es : List D) : D → D
  | .agg cs => .agg (thawL k es cs)
  | .tup cs => .tup (thawL k es cs)
  | .win j off n c => bif Nat.beq j k && (Nat.beq off 0 && Nat.beq n es.length) then .sl .no es else .win j off n c
  | .v x => .v x
  | .fn f fs cs => .fn f fs cs
  | .ifc t d => .ifc t d
  | .loc j o => .loc j o
  | .rd cs o => .rd cs o
  | .sl o l => .sl o l
def thawL (k : Nat) (es : List D) : List D → List D
  | [] => []
  | d :: l => d.thaw k es :: thawL k es l
end
section
variable {P : Program} {base : Nat} {S : St} {η : Names} {w : World}
theorem win_cells (hM : Mem P base S η w) {k b : Nat} {e : TypeId} {es zs : List D} (hk : S.ob k = some (.box e (flat es ++ zs))) (hb : η k = some (some b)) (hw : ∀ d ∈ es, d.width = szOf P e) {X : Nat → Nat → Prop} (hX : ∀ i, X b i) {w' : World} {η' : Names} (hE : w' = w) (hK : ∀ {l : List D} {vs : List Value}, RepL P w η (Fix P S η) l vs → RepL P w' η' X l vs) : RepE P w' η' X (szOf P e) es b 0 := by
  subst hE
  obtain ⟨vs, h1, h2, h3⟩ := hM.box k e _ b hk hb
  refine RepE.of_flat hw ?_
  have h4 := RepC.mk (b := b) (o := 0) (hK h2) (fun j v hj => by
    rw [Nat.zero_add]
    have : w'.cell? ⟨b, j, none⟩ = vs.toArray[j]? := by simp [World.cell?, h1]
    rw [this]; simpa using hj) (fun j _ => hX _) h3
  exact h4.left.1
mutual
theorem Rep.thaw (hM : Mem P base S η w) {k : Nat} {e : TypeId} {es zs : List D} (hk : es = [] ∨ S.ob k = some (.box e (flat es ++ zs))) (hz : 0 < szOf P e) (hw : ∀ d ∈ es, d.width = szOf P e) : ∀ {d : D} {v : Value}, Rep P w η (Fix P S η) d v → Rep P w η (Fix P (S.drop k) η) (d.thaw k es) v
  | .v x, v, h => by simp only [D.thaw]; exact (goes_drop hM k).rep h
  | .fn f fs cs, v, h => by simp only [D.thaw]; exact (goes_drop hM k).rep h
  | .ifc t d, v, h => by simp only [D.thaw]; exact (goes_drop hM k).rep h
  | .loc j o, v, h => by simp only [D.thaw]; exact (goes_drop hM k).rep h
  | .rd cs o, v, h => by simp only [D.thaw]; exact (goes_drop hM k).rep h
  | .sl o l, v, h => by simp only [D.thaw]; exact (goes_drop hM k).rep h
  | .agg cs, v, h => by
    simp only [D.thaw, Rep] at *
    obtain ⟨vs, h1, h2, h3⟩ := h
    exact ⟨vs, h1, RepL.thaw hM hk hz hw h2, h3⟩
  | .tup cs, v, h => by
    simp only [D.thaw, Rep] at *
    obtain ⟨vs, h1, h2⟩ := h
    exact ⟨vs, h1, RepL.thaw hM hk hz hw h2⟩
  | .win j off n c, v, h => by
    cases hb : (Nat.beq j k && (Nat.beq off 0 && Nat.beq n es.length)) with
    | false =>
      have e1 : (D.win j off n c).thaw k es = .win j off n c := by simp only [D.thaw, hb, cond_false]
      rw [e1]
      exact (goes_drop hM k).rep h
    | true =>
      rw [Bool.and_eq_true, Bool.and_eq_true] at hb
      have e1 : j = k := Nat.eq_of_beq_eq_true hb.1
      have e4 : off = 0 := Nat.eq_of_beq_eq_true hb.2.1
      have e2 : n = es.length := Nat.eq_of_beq_eq_true hb.2.2
      subst e1 e2 e4
      have e3 : (D.win j 0 es.length c).thaw j es = .sl .no es := by simp [D.thaw]
      rw [e3]
      obtain ⟨A, h2, h3, h4, h1⟩ := h.win_slice
      simp only [Rep]
      refine ⟨A, c, h2, h3, h4, trivial, fun hpos => ?_⟩
      rcases hk with hk | hk
      · rw [hk] at hpos; exact absurd hpos (by simp)
      rcases h1 with ⟨b, h1, rfl⟩ | ⟨_, h1, _⟩
      rotate_left
      · omega
      refine ⟨b, 0, szOf P e, rfl, hz, ?_⟩
      refine win_cells hM hk h1 hw (fun i k' o hk' ho => ?_) rfl (fun hr => (goes_drop hM j).repL hr)
      by_cases hkj : k' = j
      · subst hkj
        simp [St.drop] at ho
      · simp only [St.drop, if_neg hkj] at ho
        exact absurd (hM.inj k' j b hk' h1 (by rw [ho]; rfl) (by rw [hk]; rfl)) hkj
theorem RepL.thaw (hM : Mem P base S η w) {k : Nat} {e : TypeId} {es zs : List D} (hk : es = [] ∨ S.ob k = some (.box e (flat es ++ zs))) (hz : 0 < szOf P e) (hw : ∀ d ∈ es, d.width = szOf P e) : ∀ {l : List D} {vs : List Value}, RepL P w η (Fix P S η) l vs → RepL P w η (Fix P (S.drop k) η) (thawL k es l) vs
  | [], vs, h => by simp only [thawL, RepL] at *; exact h
  | d :: l, vs, h => by
    simp only [thawL, RepL] at *
    obtain ⟨x, xs, h1, h2, h3⟩ := h
    exact ⟨x, xs, h1, Rep.thaw hM hk hz hw h2, RepL.thaw hM hk hz hw h3⟩
end
end
def ownOb (e : TypeId) (es zs : List D) (c : Nat) : Ob := bif Nat.beq c 0 then .row e 0 else .box e (flat es ++ zs)
theorem ownOb_box {e : TypeId} {es zs : List D} {c : Nat} (h : 0 < c) : ownOb e es zs c = .box e (flat es ++ zs) := by
  cases c with
  | zero => omega
  | succ c => rfl
theorem ownOb_nil (e : TypeId) (es zs : List D) : ownOb e es zs 0 = .row e 0 := rfl
theorem thaw_own {P : Program} {S : St} {k c : Nat} {e : TypeId} {es zs : List D} (hk : S.ob k = some (ownOb e es zs c)) (hc : es.length ≤ c) (hz : 0 < szOf P e) (hw : ∀ d ∈ es, d.width = szOf P e) {d d1 : D} (hd : d.thaw k es = d1) : Thaw P S d (S.drop k) d1 := fun base η w v hM hr => by
  refine ⟨η, goes_drop hM k, hd ▸ Rep.thaw (zs := zs) hM ?_ hz hw hr⟩
  rcases Nat.eq_zero_or_pos c with rfl | h
  · exact .inl (List.eq_nil_of_length_eq_zero (by omega))
  · rw [ownOb_box h] at hk
    exact .inr hk
theorem dquietR_of {P : Program} {f : Fm} {S : St} {ty : TypeId} {op : Op} {d : D} (h : dquiet P f S ty op fun d' => d' = d) : dquietR P f S ty op d := by
  obtain ⟨d', h1, rfl⟩ := dquiet_iff.1 h
  exact h1
end Go.Proofs.YtbcabejdchkpmaaDoor

namespace Go.Proofs.YtbcabejdchkpmaaDoor
open Go.RowKit
def DQ.inl (P : Program) (rs : List ResultVar) (K : D → St → Prop) : DQ
  | .exit _, _, _ => False
  | _, f, S' => dresL P f S' rs fun ds => K (one ds) S'
theorem dcalls_inline {P : Program} (hm : P.follows .mixedOrders = true) {g : FuncId} {fn : Func} {c : Code} (hf : P.funcs[g]? = some fn) (hb : fn.body = some c) (hent : ∀ vs w, (callFunc g vs).run P w = .ok (.enter g vs) w) {rs : List ResultVar} (hrs : fn.results.toList = rs) {args : List D} (hok : (codeOk fn.ntmps c && fn.results.all (resOk fn.ntmps) && Nat.ble args.length fn.ntmps) = true) {S : St} {K : D → St → Prop}
    (h : S.WF → dwp P c (DQ.inl P rs K) (argF args) S) : DCalls P g args S K := by
  subst hrs
  intro base η w vs hM hr
  refine .inl ⟨hent _ _, ?_⟩
  simp only [Bool.and_eq_true] at hok
  obtain ⟨⟨hok1, hok2⟩, hok3⟩ := hok
  have hlen : args.length ≤ fn.ntmps := Nat.le_of_ble_eq_true hok3
  have hl := hr.length
  have hsz : (vs.toArray ++ Array.replicate (fn.ntmps - vs.toArray.size) undef).size = fn.ntmps := by simp; omega
  refine calls_of_wp hf hb ?_
  refine dwp_sound hm c (a := { tmps := vs.toArray ++ Array.replicate (fn.ntmps - vs.toArray.size) undef, defers := [] }) (by rw [hsz]; exact hok1) hM (fun t ht => ?_) (h hM.fresh) fun e f' S' η' w' a' k1 k2 k3 k4 k5 => ?_
  · rw [hsz] at ht
    simp only [argF]
    by_cases h1 : t < vs.length
    · obtain ⟨x, hx, hr'⟩ := hr.get t (List.getElem?_eq_getElem (by omega : t < args.length))
      have e1 : args.getD t undefD = args[t] := by rw [List.getD_eq_getElem?_getD, List.getElem?_eq_getElem (by omega : t < args.length)]; rfl
      have e2 : (vs.toArray ++ Array.replicate (fn.ntmps - vs.toArray.size) undef).getD t undef = x := by
        rw [Array.getD_eq_getD_getElem?, Array.getElem?_append_left (by simpa using h1)]
        simp [hx]
      rw [e1, e2]
      exact hr'
    · have e1 : args.getD t undefD = undefD := by rw [List.getD_eq_getElem?_getD, List.getElem?_eq_none (by omega)]; rfl
      have e2 : (vs.toArray ++ Array.replicate (fn.ntmps - vs.toArray.size) undef).getD t undef = undef := by
        rw [Array.getD_eq_getD_getElem?, Array.getElem?_append_right (by simpa using h1)]
        rw [Array.getElem?_replicate]
        split <;> rfl
      rw [e1, e2]
      simp only [Rep, RepL]
      exact ⟨[], rfl, rfl⟩
  · have hsz' : a'.tmps.size = fn.ntmps := by rw [k4]; exact hsz
    have hd' : a'.defers = [] := k5
    have fin : dresL P f' S' fn.results.toList (fun ds => K (one ds) S') → a'.defers = [] ∧ ∃ v, (results fn a'.tmps).run P w' = .ok v w' ∧ ∃ d S'' η'' u, K d S'' ∧ Ending.returned v = .returned u ∧ Rep P w' η'' (Fix P S'' η'') d u ∧ Goes P base S η w S'' η'' w' := fun hres => by
      obtain ⟨ds, v, hk, q7, q8⟩ := results_sound k2.mem k3 (by rw [hsz']; exact hok2) hres
      exact ⟨hd', v, q8, one ds, S', η', v, hk, rfl, q7, k2⟩
    cases e with
    | normal => exact fin k1
    | ret => exact fin k1
    | exit i => exact k1.elim
section
variable {P : Program} {S : St} {f : Fm} {K : D → St → Prop}
theorem inl_ret (t : Tmp) (S' : St) : DQ.inl P [.tmp t] K .ret f S' = K (f t) S' := by simp [DQ.inl, dresL, dres, onVal, one]
theorem inl_normal (t : Tmp) (S' : St) : DQ.inl P [.tmp t] K .normal f S' = K (f t) S' := by simp [DQ.inl, dresL, dres, onVal, one]
theorem inl_ret2 (t u : Tmp) (S' : St) : DQ.inl P [.tmp t, .tmp u] K .ret f S' = K (.tup [f t, f u]) S' := by simp [DQ.inl, dresL, dres, onVal, one]
theorem inl_normal2 (t u : Tmp) (S' : St) : DQ.inl P [.tmp t, .tmp u] K .normal f S' = K (.tup [f t, f u]) S' := by simp [DQ.inl, dresL, dres, onVal, one]
theorem inl_ret0 (S' : St) : DQ.inl P [] K .ret f S' = K undefD S' := by simp [DQ.inl, dresL, one]
theorem inl_normal0 (S' : St) : DQ.inl P [] K .normal f S' = K undefD S' := by simp [DQ.inl, dresL, one]
end
theorem inl_cell_normal {P : Program} {f : Fm} {K : D → St → Prop} (x : Tmp) (t : TypeId) (S' : St) : DQ.inl P [.cell x t] K .normal f S' = dcellR P S' t (f x) (fun r => K r S') := onVal_cell x t _
theorem inl_cell_ret {P : Program} {f : Fm} {K : D → St → Prop} (x : Tmp) (t : TypeId) (S' : St) : DQ.inl P [.cell x t] K .ret f S' = dcellR P S' t (f x) (fun r => K r S') := onVal_cell x t _
attribute [go_sem] inl_cell_normal inl_cell_ret
attribute [go_sem] inl_ret inl_normal inl_ret2 inl_normal2 inl_ret0 inl_normal0
end Go.Proofs.YtbcabejdchkpmaaDoor

namespace Go.Proofs.YtbcabejdchkpmaaDoor
open Go.RowKit
def IsU64 (n : Nat) : Prop := n < 18446744073709551616
theorem wrap_u64 (n : Nat) (h : IsU64 n) : IntKind.u64.wrap (n : Int) = n := by
  unfold IsU64 at h
  simp only [IntKind.wrap_u64]
  omega
theorem or80' : ∀ x : Fin 256, bits BinOp.or IntKind.u8 (x.val : Int) 128 = ((x.val % 128 + 128 : Nat) : Int) := by decide +kernel
theorem or80 (k : Nat) : bits BinOp.or IntKind.u8 ((k : Int) % 256) 128 = ((k % 128 + 128 : Nat) : Int) := by
  have h := or80' ⟨k % 256, by omega⟩
  simp only at h
  rw [show ((k : Int) % 256) = ((k % 256 : Nat) : Int) from by omega, h]
  omega
section
variable {P : Program} {t : TypeId} {x y : Operand}
theorem bin_or (k : IntKind) (a b : Int) : dbin P .or t x y (.v (.int k a)) (.v (.int k b)) = some (True, .v (.int k (bits .or k a b))) := by
  simp [dbin, eqGuard, binOp, intBits_or, pureRun_bind, pureRun_pure]
theorem bin_xor (k : IntKind) (a b : Int) : dbin P .xor t x y (.v (.int k a)) (.v (.int k b)) = some (True, .v (.int k (bits .xor k a b))) := by
  simp [dbin, eqGuard, binOp, intBits_xor, pureRun_bind, pureRun_pure]
theorem bin_andNot (k : IntKind) (a b : Int) : dbin P .andNot t x y (.v (.int k a)) (.v (.int k b)) = some (True, .v (.int k (bits .andNot k a b))) := by
  simp [dbin, eqGuard, binOp, intBits_andNot, pureRun_bind, pureRun_pure]
theorem bin_shr7 (a : Nat) : dbin P .shr t x y (.v (.int .u64 a)) (.v (.int .u64 7)) = some (True, .v (.int .u64 ((a / 128 : Nat) : Int))) := by
  simp [dbin, eqGuard, binOp, shift_shr .u64 .u64 (a : Int) 7 (by omega) (by decide), pureRun_bind, pureRun_pure]
theorem bin_shr63 (a : Int) : dbin P .shr t x y (.v (.int .i64 a)) (.v (.int .u64 63)) = some (True, .v (.int .i64 (a / 9223372036854775808))) := by
  simp [dbin, eqGuard, binOp, shift_shr .i64 .u64 a 63 (by omega) (by decide), pureRun_bind, pureRun_pure]
theorem bin_shl1 (a : Int) : dbin P .shl t x y (.v (.int .u64 a)) (.v (.int .u64 1)) = some (True, .v (.int .u64 (IntKind.u64.wrap (a * 2)))) := by
  simp [dbin, eqGuard, binOp, Op.shift, IntKind.bits, pureRun_bind, pureRun_pure]
end
theorem cv_u64u8 (n : Int) : pureRun Tryd.prog (convert 22 5 (.int .u64 n)) = some (.int .u8 (IntKind.u8.wrap n)) := by kernel_rfl
theorem cv_i64u64 (n : Int) : pureRun Tryd.prog (convert 3 22 (.int .i64 n)) = some (.int .u64 (IntKind.u64.wrap n)) := by kernel_rfl
theorem cv_u64i64 (n : Int) : pureRun Tryd.prog (convert 22 3 (.int .u64 n)) = some (.int .i64 (IntKind.i64.wrap n)) := by kernel_rfl
theorem cv_u8u64 (n : Int) : pureRun Tryd.prog (convert 5 22 (.int .u8 n)) = some (.int .u64 (IntKind.u64.wrap n)) := by kernel_rfl
theorem cv_i64u8 (n : Int) : pureRun Tryd.prog (convert 3 5 (.int .i64 n)) = some (.int .u8 (IntKind.u8.wrap n)) := by kernel_rfl
theorem u8T_u8 : u8T Tryd.prog 5 = true := by kernel_rfl
attribute [go_sem] u8T_u8
attribute [go_sem] bin_or bin_xor bin_andNot bin_shr7 bin_shr63 bin_shl1 cv_u64u8 cv_i64u64 cv_u64i64 cv_u8u64 cv_i64u8
def WAt (k : Nat) (bs : List UInt8) (T : St) : Prop := ∃ own, T.ob k = some (.box 73 [.sl own (bs.map bD)]) ∧ ((own = .full ∧ bs = []) ∨ ∃ g, own = .row g ∧ k < g ∧ T.ob g = some (.row 5 bs.length))
structure WFr (k : Nat) (S T : St) : Prop where
  next : S.next ≤ T.next
  ob : ∀ j o, (j < k ∨ (j ≠ k ∧ ∃ t cs, o = .box t cs)) → S.ob j = some o → T.ob j = some o
theorem WFr.box {k : Nat} {S T : St} (h : WFr k S T) (j : Nat) (t : TypeId) (cs : List D) (hj : j ≠ k) (e : S.ob j = some (.box t cs)) : T.ob j = some (.box t cs) := h.ob j _ (.inr ⟨hj, t, cs, rfl⟩) e
theorem WFr.of_keep {k : Nat} {S T : St} (hn : S.next ≤ T.next) (h : ∀ j o, S.ob j = some o → T.ob j = some o) : WFr k S T := ⟨hn, fun j o _ e => h j o e⟩
theorem WFr.refl (k : Nat) (S : St) : WFr k S S := ⟨Nat.le_refl _, fun _ _ _ h => h⟩
theorem WFr.trans {k : Nat} {A B C : St} (h : WFr k A B) (g : WFr k B C) : WFr k A C := ⟨Nat.le_trans h.next g.next, fun j o hj e => g.ob j o hj (h.ob j o hj e)⟩
theorem wd_bD (l : List UInt8) : ∀ d ∈ l.map bD, d.width = szOf Tryd.prog 5 := by
  intro d hd
  obtain ⟨b, _, rfl⟩ := List.mem_map.1 hd
  exact Eq.trans rfl (by kernel_rfl : 1 = szOf Tryd.prog 5)
theorem dapp_bytes {S : St} {ty : TypeId} {own own2 : Own} {bs xs : List UInt8} {K : D → St → Prop} (h : (own = .full ∧ bs = []) ∨ ∃ g, own = .row g ∧ S.ob g = some (.row 5 bs.length)) (hl : bs.length + xs.length ≤ 1099511627776)
    (k : K (.sl (.row S.next) ((bs ++ xs).map bD)) (S.grow own 5 (bs.length + xs.length))) : dapp Tryd.prog S 30 30 ty (.sl own (bs.map bD)) (.sl own2 (xs.map bD)) K := by
  refine dapp_row ?_
  have he : elT Tryd.prog 30 = some 5 := by kernel_rfl
  have hb : bytesOf Tryd.prog 5 = 1 := by kernel_rfl
  have hz : zeroT Tryd.prog 5 = true := by kernel_rfl
  simp only [dappend, he, hz, hb, List.length_map, ← List.map_append, true_and, Option.isSome_some]
  refine ⟨wd_bD bs, wd_bD xs, ?_, by omega, by omega, k⟩
  rcases h with ⟨rfl, rfl⟩ | ⟨g, rfl, h⟩
  · trivial
  · exact h
set_option maxRecDepth 200000 in
set_option maxHeartbeats 4000000 in
theorem raw_w {S : St} {k : Nat} {bs : List UInt8} (own2 : Own) (xs : List UInt8) (hk : k < S.next) (h : WAt k bs S) (hl : bs.length + xs.length ≤ 1099511627776) : DCalls Tryd.prog 65 [.loc k 0, .sl own2 (xs.map bD)] S fun d T => d = undefD ∧ WAt k (bs ++ xs) T ∧ WFr k S T := by
  obtain ⟨own, h1, h2⟩ := h
  refine dcalls_inline mixed Tryd.func65 rfl (fun _ _ => by kernel_rfl) (rs := []) rfl (by kernel_rfl) (fun hS => ?_)
  (simp (disch := first | decide | omega | (simp only [nx]; first | done | omega)) only [go_sem, h1]; (repeat with_reducible refine aI ?_))
  have hk2 : (k = S.next) = False := by simp; omega
  rcases h2 with ⟨rfl, rfl⟩ | ⟨g, rfl, hg, h2⟩
  · refine dapp_bytes (.inl ⟨rfl, rfl⟩) (by omega) ?_
    (simp (disch := first | decide | omega | (simp only [nx]; first | done | omega)) only [go_sem, hk2, h1]; (repeat with_reducible refine aI ?_))
    refine ⟨⟨.row S.next, by simp [St.set], .inr ⟨S.next, rfl, by omega, ?_⟩⟩, ⟨by simp [St.set, St.grow, St.leave, St.add], fun j o hj e => ?_⟩⟩
    · simp [St.grow, St.leave, St.add, St.set, Ne.symm (show k ≠ S.next by omega)]
    · have hlt := hS.lt e
      have hj : j ≠ k := by rcases hj with h | h; omega; exact h.1
      simp [St.grow, St.leave, St.add, St.set, hj, show j ≠ S.next by omega, e]
  · have hkg : (k = g) = False := by simp; omega
    refine dapp_bytes (.inr ⟨g, rfl, h2⟩) (by omega) ?_
    (simp (disch := first | decide | omega | (simp only [nx]; first | done | omega)) only [go_sem, hk2, hkg, h1]; (repeat with_reducible refine aI ?_))
    refine ⟨⟨.row S.next, by simp [St.set], .inr ⟨S.next, rfl, by omega, ?_⟩⟩, ⟨by simp [St.set, St.grow, St.leave, St.add, St.drop], fun j o hj e => ?_⟩⟩
    · simp [St.grow, St.leave, St.add, St.set, St.drop, Ne.symm (show k ≠ S.next by omega)]
    · have hlt := hS.lt e
      have hjg : j ≠ g := fun e2 => by
        rcases hj with h | ⟨_, t, cs, rfl⟩
        · omega
        · rw [e2, h2] at e; cases e
      have hj : j ≠ k := by rcases hj with h | h; omega; exact h.1
      simp [St.grow, St.leave, St.add, St.set, St.drop, hj, hjg, show j ≠ S.next by omega, e]
theorem WAt.box {k : Nat} {bs : List UInt8} {S T : St} (h : WAt k bs S) (hn : S.next ≤ T.next) (hS : S.WF) (hb : ∀ j o, S.ob j = some o → T.ob j = some o) : WAt k bs T := by
  obtain ⟨own, h1, h2⟩ := h
  refine ⟨own, hb _ _ h1, h2.imp id fun ⟨g, h3, h4, h5⟩ => ⟨g, h3, h4, hb _ _ h5⟩⟩
theorem add_keep {S : St} (hS : S.WF) (o : Ob) : ∀ j o', S.ob j = some o' → (S.add o).ob j = some o' := by
  intro j o' h
  have hlt := hS.lt h
  simp [St.add, show j ≠ S.next by omega, h]
theorem WAt.add {k : Nat} {bs : List UInt8} {S : St} (h : WAt k bs S) (hS : S.WF) (o : Ob) : WAt k bs (S.add o) := h.box (Nat.le_succ _) hS (add_keep hS o)
set_option maxRecDepth 200000 in
set_option maxHeartbeats 4000000 in
theorem byte_w {S : St} {k : Nat} {bs : List UInt8} (b : UInt8) (hk : k < S.next) (h : WAt k bs S) (hl : bs.length + 1 ≤ 1099511627776) : DCalls Tryd.prog 70 [.loc k 0, bD b] S fun d T => d = undefD ∧ WAt k (bs ++ [b]) T ∧ WFr k S T := by
  refine dcalls_inline mixed Tryd.func70 rfl (fun _ _ => by kernel_rfl) (rs := []) rfl (by kernel_rfl) (fun hS => ?_)
  (simp (disch := first | decide | omega | (simp only [nx]; first | done | omega)) only [go_sem, show bD b = .v (.int .u8 b.toNat) from rfl]; (repeat with_reducible refine aI ?_))
  refine (raw_w .full [b] hk h hl).mono ?_
  rintro _ T ⟨rfl, h1, h2⟩
  (simp (disch := first | decide | omega | (simp only [nx]; first | done | omega)) only [go_sem]; (repeat with_reducible refine aI ?_))
  exact h2
theorem bD1 (n : Nat) (h : n < 256) : [D.v (.int .u8 (n : Int))] = [b8 n].map bD := by
  simp [bD, b8_toNat n h]
theorem wrap_u8 (n : Nat) : IntKind.u8.wrap (n : Int) = (n : Int) % 256 := IntKind.wrap_u8 _
set_option maxRecDepth 200000 in
set_option maxHeartbeats 4000000 in
theorem number_w {S : St} {k : Nat} {bs : List UInt8} (n : Nat) (hn : IsU64 n) (hk : k < S.next) (h : WAt k bs S) (hl : bs.length + 10 ≤ 1099511627776) : DCalls Tryd.prog 42 [.loc k 0, .v (.int .u64 (n : Int))] S fun d T => d = undefD ∧ WAt k (bs ++ numB n) T ∧ WFr k S T := by
  refine dcalls_inline mixed Tryd.func42 rfl (fun _ _ => by kernel_rfl) (rs := []) rfl (by kernel_rfl) (fun hS => ?_)
  (simp (disch := first | decide | omega | (simp only [nx]; first | done | omega)) only [go_sem]; (repeat with_reducible refine aI ?_))
  have hnl := numB_length_le n hn
  refine dloop_down (fun t => List.contains [1, 4, 5, 6, 7, 8, 9, 10, 11, 12, 13] t) (by kernel_rfl) hS (fun m g T => ∃ done, done ++ numB m = numB n ∧ IsU64 m ∧ g 1 = .v (.int .u64 (m : Int)) ∧ WAt k (bs ++ done) T ∧ WFr k S T) n ⟨[], rfl, hn, rfl, by rw [List.append_nil]; exact h, WFr.refl k S⟩ ?_
  rintro m g T hT hg ⟨done, hd, hm, q1, hW, hF⟩
  have q0 : g 0 = .loc k 0 := hg 0 rfl
  have hkT : k < T.next := Nat.lt_of_lt_of_le hk hF.next
  have hdl : (bs ++ done).length + 1 ≤ 1099511627776 := by
    have := congrArg List.length hd
    rw [List.length_append] at this
    have := numB_pos m
    rw [List.length_append]; omega
  by_cases hlt : m < 128
  · have b1 : decide ((128 : Int) ≤ (m : Int)) = false := by simp; omega
    have w8 : IntKind.u8.wrap (m : Int) = (m : Int) := by rw [wrap_u8]; omega
    (simp (disch := first | decide | omega | (simp only [nx]; first | done | omega)) only [go_sem, q0, q1, b1, w8]; (repeat with_reducible refine aI ?_))
    rw [bD1 m (by omega)]
    refine (raw_w .full [b8 m] hkT hW hdl).mono ?_
    rintro _ T1 ⟨rfl, h1, h2⟩
    (simp (disch := first | decide | omega | (simp only [nx]; first | done | omega)) only [go_sem]; (repeat with_reducible refine aI ?_))
    refine ⟨?_, hF.trans h2⟩
    rw [← hd, numB_lt m hlt, ← List.append_assoc]; exact h1
  · have b1 : decide ((128 : Int) ≤ (m : Int)) = true := by simp; omega
    (simp (disch := first | decide | omega | (simp only [nx]; first | done | omega)) only [go_sem, q0, q1, b1, wrap_u8, or80]; (repeat with_reducible refine aI ?_))
    rw [bD1 (m % 128 + 128) (by omega)]
    refine (raw_w .full [b8 (m % 128 + 128)] hkT hW hdl).mono ?_
    rintro _ T1 ⟨rfl, h1, h2⟩
    (simp (disch := first | decide | omega | (simp only [nx]; first | done | omega)) only [go_sem, q0, q1]; (repeat with_reducible refine aI ?_))
    refine ⟨m / 128, T1.ob, by omega, fun _ _ h => h, done ++ [b8 (m % 128 + 128)], ?_, by unfold IsU64 at *; omega, ?_, by rw [← List.append_assoc]; exact h1, hF.trans h2⟩
    · rw [List.append_assoc, ← hd, numB_ge m hlt]; rfl
    · (first | (simp (disch := first | decide | omega | (simp only [nx]; first | done | omega)) only [go_sem]; first | done | rfl) | rfl)
set_option maxRecDepth 200000 in
set_option maxHeartbeats 4000000 in
theorem bytes_w {S : St} {k : Nat} {bs : List UInt8} (own2 : Own) (xs : List UInt8) (hk : k < S.next) (h : WAt k bs S) (hl : bs.length + xs.length + 10 ≤ 1099511627776) : DCalls Tryd.prog 82 [.loc k 0, .sl own2 (xs.map bD)] S fun d T => d = undefD ∧ WAt k (bs ++ (numB xs.length ++ xs)) T ∧ WFr k S T := by
  refine dcalls_inline mixed Tryd.func82 rfl (fun _ _ => by kernel_rfl) (rs := []) rfl (by kernel_rfl) (fun hS => ?_)
  have hu : IsU64 xs.length := by unfold IsU64; omega
  (simp (disch := first | decide | omega | (simp only [nx]; first | done | omega)) only [go_sem, wrap_u64 xs.length hu]; (repeat with_reducible refine aI ?_))
  refine (number_w xs.length hu hk h (by omega)).mono ?_
  rintro _ T ⟨rfl, h1, h2⟩
  (simp (disch := first | decide | omega | (simp only [nx]; first | done | omega)) only [go_sem]; (repeat with_reducible refine aI ?_))
  have := numB_length_le xs.length hu
  refine (raw_w own2 xs (Nat.lt_of_lt_of_le hk h2.next) h1 (by rw [List.length_append]; omega)).mono ?_
  rintro _ T1 ⟨rfl, h3, h4⟩
  (simp (disch := first | decide | omega | (simp only [nx]; first | done | omega)) only [go_sem]; (repeat with_reducible refine aI ?_))
  refine ⟨by rw [← List.append_assoc]; exact h3, h2.trans h4⟩
set_option maxRecDepth 200000 in
set_option maxHeartbeats 4000000 in
theorem text_w {S : St} {k : Nat} {bs : List UInt8} (s : ByteArray) (hk : k < S.next) (h : WAt k bs S) (hl : bs.length + s.data.toList.length + 10 ≤ 1099511627776) : DCalls Tryd.prog 71 [.loc k 0, .v (.string s)] S fun d T => d = undefD ∧ WAt k (bs ++ (numB s.data.toList.length ++ s.data.toList)) T ∧ WFr k S T := by
  refine dcalls_inline mixed Tryd.func71 rfl (fun _ _ => by kernel_rfl) (rs := []) rfl (by kernel_rfl) (fun hS => ?_)
  (simp (disch := first | decide | omega | (simp only [nx]; first | done | omega)) only [go_sem]; (repeat with_reducible refine aI ?_))
  refine (bytes_w .no s.data.toList hk h hl).mono ?_
  rintro _ T ⟨rfl, h1, h2⟩
  (simp (disch := first | decide | omega | (simp only [nx]; first | done | omega)) only [go_sem]; (repeat with_reducible refine aI ?_))
  exact h2
set_option maxRecDepth 200000 in
set_option maxHeartbeats 4000000 in
theorem out_w {S : St} {k : Nat} {bs : List UInt8} (h : WAt k bs S) (hl : bs.length ≤ 1099511627776) : DCalls Tryd.prog 44 [.loc k 0] S fun d T => ∃ o, d = .sl o (bs.map bD) ∧ WAt k bs T ∧ WFr k S T := by
  obtain ⟨own, h1, h2⟩ := h
  refine dcalls_inline mixed Tryd.func44 rfl (fun _ _ => by kernel_rfl) (rs := [.tmp 2]) rfl (by kernel_rfl) (fun hS => ?_)
  (simp (disch := first | decide | omega | (simp only [nx]; first | done | omega)) only [go_sem, h1]; (repeat with_reducible refine aI ?_))
  refine dapp_bytes (bs := []) (.inl ⟨rfl, rfl⟩) (by simpa using hl) ?_
  (simp (disch := first | decide | omega | (simp only [nx]; first | done | omega)) only [go_sem]; (repeat with_reducible refine aI ?_))
  have hob : ∀ j o, S.ob j = some o → (S.grow .full 5 bs.length).ob j = some o := fun j o e => by
    have hlt := hS.lt e
    simp [St.grow, St.leave, St.add, show j ≠ S.next by omega, e]
  exact ⟨_, rfl, ⟨own, hob _ _ h1, h2.imp id fun ⟨g, h3, h4, h5⟩ => ⟨g, h3, h4, hob _ _ h5⟩⟩, WFr.of_keep (by simp [St.grow, St.leave, St.add]) hob⟩
end Go.Proofs.YtbcabejdchkpmaaDoor

namespace Go.Proofs.YtbcabejdchkpmaaDoor
open Go.RowKit
theorem bD_eq (b : UInt8) : bD b = .v (.int .u8 (b.toNat : Int)) := rfl
theorem andNot80' : ∀ x : Fin 256, bits BinOp.andNot IntKind.u8 (x.val : Int) 128 = ((x.val % 128 : Nat) : Int) := by decide +kernel
theorem digit_put (m c k : Nat) (hm : m < 128 ^ k) (hk : k ≤ 9) (hk9 : k = 9 → c ≤ 1) (hc : c < 256) :
    bits BinOp.or IntKind.u64 (m : Int) (IntKind.u64.wrap (IntKind.u64.wrap (bits BinOp.andNot IntKind.u8 (c : Int) 128) * 2 ^ (7 * k))) = ((m + c % 128 * 128 ^ k : Nat) : Int) := by
  have h1 := andNot80' ⟨c, hc⟩
  simp only at h1
  have e2 : (2 : Nat) ^ (7 * k) = 128 ^ k := by rw [Nat.pow_mul]
  have hu : c % 128 * 128 ^ k < 18446744073709551616 ∧ 128 ^ k ≤ 9223372036854775808 := by
    have h3 : (128 : Nat) ^ k ≤ 128 ^ 9 := Nat.pow_le_pow_right (by omega) hk
    simp at h3
    refine ⟨?_, h3⟩
    by_cases h9 : k = 9
    · subst h9
      have := hk9 rfl
      have h4 : c % 128 * 128 ^ 9 ≤ 1 * 128 ^ 9 := Nat.mul_le_mul_right _ (by omega)
      simp at h4 ⊢
      omega
    · have h5 : (128 : Nat) ^ k ≤ 128 ^ 8 := Nat.pow_le_pow_right (by omega) (by omega)
      have h4 : c % 128 * 128 ^ k ≤ 127 * 128 ^ 8 := Nat.mul_le_mul (by omega) h5
      simp at h4
      omega
  rw [h1, wrap_u64 (c % 128) (by unfold IsU64; omega)]
  have e3 : ((c % 128 : Nat) : Int) * 2 ^ (7 * k) = ((c % 128 * 128 ^ k : Nat) : Int) := by rw [← e2]; push_cast; rfl
  rw [e3, wrap_u64 _ hu.1, bits_or_u64_nat _ _ (by omega) hu.1]
  congr 1
  rw [Nat.or_comm, ← e2, Nat.mul_comm, ← Nat.two_pow_add_eq_or_of_lt (by rw [e2]; exact hm)]
  omega
theorem bin_shl7 {P : Program} {t : TypeId} {x y : Operand} (a : Int) (k : Nat) (hk : k ≤ 9) : dbin P .shl t x y (.v (.int .u64 a)) (.v (.int .i64 ((7 * k : Nat) : Int))) = some (True, .v (.int .u64 (IntKind.u64.wrap (a * 2 ^ (7 * k))))) := by
  have h1 : ¬ ((7 * k : Nat) : Int) < 0 := by omega
  have h2 : min (7 * k) (IntKind.bits .u64) = 7 * k := by simp only [IntKind.bits]; omega
  have h3 : (((7 * k : Nat) : Int)).toNat = 7 * k := by omega
  simp only [dbin, eqGuard, binOp, Op.shift, h1, h3, h2, pureRun_bind, pureRun_pure, if_false]
  rfl
section
variable {P : Program} {f : Fm} {S : St}
theorem pfin_ret3 (t u v : Tmp) (S' : St) (d : D) : DQ.pfin P [.tmp t, .tmp u, .tmp v] S d .ret f S' = PFin S S' (.tup [f t, f u, f v]) d := by
  simp [DQ.pfin, dresL, dres, onVal, one]
theorem pfin_normal3 (t u v : Tmp) (S' : St) (d : D) : DQ.pfin P [.tmp t, .tmp u, .tmp v] S d .normal f S' = PFin S S' (.tup [f t, f u, f v]) d := by
  simp [DQ.pfin, dresL, dres, onVal, one]
end
attribute [go_sem] pfin_ret3 pfin_normal3
def accN (l : List UInt8) : Nat → Nat
  | 0 => 0
  | i + 1 => accN l i + (l.getD i 0).toNat % 128 * 128 ^ i
def numD : Option (Nat × Nat) → D
  | some (n, s) => .tup [.v (.int .u64 (n : Int)), .v (.int .i64 (s : Int)), .v (.int .i64 0)]
  | none => .tup [.v (.int .u64 0), .v (.int .i64 0), .v (.int .i64 2)]
theorem numD_closed (o : Option (Nat × Nat)) : (numD o).closed := by
  cases o <;> simp [numD, D.closed, D.all, allL]
theorem drop_cons' {α : Type} (l : List α) (k : Nat) (h : k < l.length) : l.drop k = l[k] :: l.drop (k + 1) := by rw [List.drop_eq_getElem_cons h]
set_option maxRecDepth 200000 in
set_option maxHeartbeats 8000000 in
theorem number_d (own : Own) (l : List UInt8) (hl : l.length ≤ 1099511627776) : DPure Tryd.prog 36 [.sl own (l.map bD)] (numD (numP l)) := by
  refine dpure_of_dwp mixed Tryd.func36 rfl (fun _ _ => by kernel_rfl) (rs := [.tmp 2, .tmp 3, .tmp 4]) rfl (by kernel_rfl) (numD_closed _) (fun S hS => ?_)
  (simp (disch := first | decide | omega | (simp only [nx]; first | done | omega)) only [go_sem]; (repeat with_reducible refine aI ?_))
  (refine dloop_st (fun t => List.contains [2, 3, 4, 5, 6, 7, 10, 11, 12, 13, 14, 15, 16, 17, 18, 19, 20, 21, 22, 23, 24, 25, 26, 27, 28, 29, 30, 31, 32, 33, 34, 35, 36, 37, 38, 39, 40, 41, 42, 43, 44] t) (by kernel_rfl) ?_ (l.length) (fun i f => i ≤ l.length ∧ f 5 = .v (.int .u64 (accN l i : Nat)) ∧ f 10 = .v (.int .i64 (i : Nat)) ∧ (numP l = numGo i (accN l i) (l.drop i)) ∧ (accN l i < 128 ^ i) ∧ (i ≤ 10) ∧ (i = 10 → IsU64 (accN l i))) ?_ ?_; (exact (by (repeat' first | assumption | refine St.WF.leave ?_ _ | refine St.WF.add ?_ _ | refine St.WF.set ?_ ?_ _ | refine St.WF.grow ?_ _ _ _ | refine St.WF.keep ?_ ?_ | (first | omega | (simp only [RowOk.lo, nx]; first | done | omega))))); (exact ⟨(by omega), (by (first | (simp (disch := first | decide | omega | (simp only [nx]; first | done | omega)) only [go_sem]; first | done | rfl) | rfl)), (by (first | (simp (disch := first | decide | omega | (simp only [nx]; first | done | omega)) only [go_sem]; first | done | rfl) | rfl)), (by simp [numP, accN]), (by simp [accN]), (by omega), (fun h => by omega)⟩); intro i g tn hn hT hg hI; obtain ⟨le, q5, q10, hp, hm, hk, hu⟩ := hI; have q8 := hg 8 rfl; have q9 := hg 9 rfl; simp (disch := first | decide | omega | (simp only [nx]; first | done | omega)) only [go_sem] at q8 q9; clear hg; have hn' := hn; try simp only [add_next, set_next, grow_next, leave_next, drop_next] at hn')
  by_cases hlt : i < l.length
  · have b1 : decide ((i : Int) < (l.length : Int)) = true := by simp; omega
    have hd := drop_cons' l i hlt
    have hbyte : l[i].toNat < 256 := UInt8.toNat_lt _
    have hacc : accN l (i + 1) = accN l i + l[i].toNat % 128 * 128 ^ i := by rw [accN, List.getD_eq_getElem?_getD, List.getElem?_eq_getElem hlt]; rfl
    by_cases h10 : i = 10
    · have e1 : ((i : Int) == 10) = true := by simp; omega
      (simp (disch := first | decide | omega | (simp only [nx]; first | done | omega)) only [go_sem, q5, q8, q9, q10, b1, e1, bD_eq]; (repeat with_reducible refine aI ?_))
      refine ⟨?_, (by (repeat' first | assumption | exact St.Sub.refl _ | exact RowOk.sub (by assumption) (by assumption) | refine St.Sub.trans ?_ (RowOk.sub (by assumption) (by assumption)) | refine St.Sub.add ?_ ?_ _ | refine St.Sub.set ?_ ?_ ?_ _ | refine St.Sub.keep ?_ ?_ | refine St.WF.leave ?_ _ | refine St.WF.add ?_ _ | refine St.WF.set ?_ ?_ _ | refine St.WF.grow ?_ _ _ _ | refine St.WF.keep ?_ ?_ | (first | omega | (simp only [RowOk.lo, nx]; first | done | omega))))⟩
      rw [hp, hd, numGo, if_pos (.inl h10)]; rfl
    · have e1 : ((i : Int) == 10) = false := by simp; omega
      by_cases h9 : i = 9 ∧ 1 < l[i].toNat
      · have e2 : ((i : Int) == 9) = true := by simp; omega
        have e3 : decide (1 < (l[i].toNat : Int)) = true := by simp; omega
        (simp (disch := first | decide | omega | (simp only [nx]; first | done | omega)) only [go_sem, q5, q8, q9, q10, b1, e1, e2, e3, bD_eq]; (repeat with_reducible refine aI ?_))
        refine ⟨?_, (by (repeat' first | assumption | exact St.Sub.refl _ | exact RowOk.sub (by assumption) (by assumption) | refine St.Sub.trans ?_ (RowOk.sub (by assumption) (by assumption)) | refine St.Sub.add ?_ ?_ _ | refine St.Sub.set ?_ ?_ ?_ _ | refine St.Sub.keep ?_ ?_ | refine St.WF.leave ?_ _ | refine St.WF.add ?_ _ | refine St.WF.set ?_ ?_ _ | refine St.WF.grow ?_ _ _ _ | refine St.WF.keep ?_ ?_ | (first | omega | (simp only [RowOk.lo, nx]; first | done | omega))))⟩
        rw [hp, hd, numGo, if_pos (.inr h9)]; rfl
      · have hg : ¬ (i = 10 ∨ i = 9 ∧ 1 < l[i].toNat) := by omega
        have hdig := digit_put (accN l i) l[i].toNat i hm (by omega) (fun h => by omega) hbyte
        have w7 : IntKind.i64.wrap (7 * (i : Int)) = ((7 * i : Nat) : Int) := by rw [IntWalk.i64_in _ ⟨by omega, by omega⟩]; push_cast; rfl
        have w1 : IntKind.i64.wrap ((i : Int) + 1) = ((i + 1 : Nat) : Int) := IntWalk.i64_in _ ⟨by omega, by omega⟩
        have hs7 : ∀ {t : TypeId} {x y : Operand} (a : Int), dbin Tryd.prog .shl t x y (.v (.int .u64 a)) (.v (.int .i64 ((7 * i : Nat) : Int))) = some (True, .v (.int .u64 (IntKind.u64.wrap (a * 2 ^ (7 * i))))) := fun a => bin_shl7 a i (by omega)
        have hU : accN l (i + 1) < 128 ^ (i + 1) ∧ (i + 1 = 10 → IsU64 (accN l (i + 1))) := by
          rw [hacc]
          refine ⟨?_, fun h => ?_⟩
          · have h2 : l[i].toNat % 128 * 128 ^ i ≤ 127 * 128 ^ i := Nat.mul_le_mul_right _ (by omega)
            rw [Nat.pow_succ]; omega
          · have h5 : i = 9 := by omega
            subst h5
            have h4 : l[9].toNat % 128 * 128 ^ 9 ≤ 1 * 128 ^ 9 := Nat.mul_le_mul_right _ (by omega)
            simp at h4 hm
            unfold IsU64
            omega
        have hcase : ∃ b9 b8 : Bool, ((i : Int) == 9) = b9 ∧ decide (1 < (l[i].toNat : Int)) = b8 ∧ (b9 && b8) = false := ⟨_, _, rfl, rfl, by
          cases h : ((i : Int) == 9)
          · rfl
          · have : ¬ (1 < l[i].toNat) := fun h' => h9 ⟨by have := eq_of_beq h; omega, h'⟩
            simp; omega⟩
        obtain ⟨b9, b8, e2, e3, e4⟩ := hcase
        by_cases hge : 128 ≤ l[i].toNat
        · have g1 : decide ((128 : Int) ≤ (l[i].toNat : Int)) = true := by simp; omega
          have hS : numP l = numGo (i + 1) (accN l (i + 1)) (l.drop (i + 1)) := by rw [hp, hd, numGo, if_neg hg, if_pos hge, hacc]
          cases b9
          · (simp (disch := first | decide | omega | (simp only [nx]; first | done | omega)) only [go_sem, q5, q8, q9, q10, b1, e1, e2, e3, bD_eq, w7, hs7, hdig, g1]; (repeat with_reducible refine aI ?_))
            (refine ⟨by omega, (by (repeat' first | assumption | exact St.Sub.refl _ | exact RowOk.sub (by assumption) (by assumption) | refine St.Sub.trans ?_ (RowOk.sub (by assumption) (by assumption)) | refine St.Sub.add ?_ ?_ _ | refine St.Sub.set ?_ ?_ ?_ _ | refine St.Sub.keep ?_ ?_ | refine St.WF.leave ?_ _ | refine St.WF.add ?_ _ | refine St.WF.set ?_ ?_ _ | refine St.WF.grow ?_ _ _ _ | refine St.WF.keep ?_ ?_ | (first | omega | (simp only [RowOk.lo, nx]; first | done | omega)))), ?_⟩; refine ⟨by omega, ?_, ?_, ?_, ?_, ?_, ?_⟩; all_goals (try (first | (simp (disch := first | decide | omega | (simp only [nx]; first | done | omega)) only [go_sem, w1, hacc]; first | done | rfl) | rfl)))
            · exact hS
            · exact hU.1
            · omega
            · exact hU.2
          · obtain rfl : b8 = false := by simpa using e4
            (simp (disch := first | decide | omega | (simp only [nx]; first | done | omega)) only [go_sem, q5, q8, q9, q10, b1, e1, e2, e3, bD_eq, w7, hs7, hdig, g1]; (repeat with_reducible refine aI ?_))
            (refine ⟨by omega, (by (repeat' first | assumption | exact St.Sub.refl _ | exact RowOk.sub (by assumption) (by assumption) | refine St.Sub.trans ?_ (RowOk.sub (by assumption) (by assumption)) | refine St.Sub.add ?_ ?_ _ | refine St.Sub.set ?_ ?_ ?_ _ | refine St.Sub.keep ?_ ?_ | refine St.WF.leave ?_ _ | refine St.WF.add ?_ _ | refine St.WF.set ?_ ?_ _ | refine St.WF.grow ?_ _ _ _ | refine St.WF.keep ?_ ?_ | (first | omega | (simp only [RowOk.lo, nx]; first | done | omega)))), ?_⟩; refine ⟨by omega, ?_, ?_, ?_, ?_, ?_, ?_⟩; all_goals (try (first | (simp (disch := first | decide | omega | (simp only [nx]; first | done | omega)) only [go_sem, w1, hacc]; first | done | rfl) | rfl)))
            · exact hS
            · exact hU.1
            · omega
            · exact hU.2
        · have g1 : decide ((128 : Int) ≤ (l[i].toNat : Int)) = false := by simp; omega
          by_cases hz : l[i].toNat = 0 ∧ 0 < i
          · have z1 : ((l[i].toNat : Int) == 0) = true := by simp; omega
            have z2 : decide ((0 : Int) < (i : Int)) = true := by simp; omega
            have hR : numP l = none := by rw [hp, hd, numGo, if_neg hg, if_neg hge, if_pos hz]
            rw [hR]
            cases b9
            · (simp (disch := first | decide | omega | (simp only [nx]; first | done | omega)) only [go_sem, q5, q8, q9, q10, b1, e1, e2, e3, bD_eq, w7, hs7, hdig, g1, z1, z2]; (repeat with_reducible refine aI ?_))
              refine ⟨?_, (by (repeat' first | assumption | exact St.Sub.refl _ | exact RowOk.sub (by assumption) (by assumption) | refine St.Sub.trans ?_ (RowOk.sub (by assumption) (by assumption)) | refine St.Sub.add ?_ ?_ _ | refine St.Sub.set ?_ ?_ ?_ _ | refine St.Sub.keep ?_ ?_ | refine St.WF.leave ?_ _ | refine St.WF.add ?_ _ | refine St.WF.set ?_ ?_ _ | refine St.WF.grow ?_ _ _ _ | refine St.WF.keep ?_ ?_ | (first | omega | (simp only [RowOk.lo, nx]; first | done | omega))))⟩
              rfl
            · obtain rfl : b8 = false := by simpa using e4
              (simp (disch := first | decide | omega | (simp only [nx]; first | done | omega)) only [go_sem, q5, q8, q9, q10, b1, e1, e2, e3, bD_eq, w7, hs7, hdig, g1, z1, z2]; (repeat with_reducible refine aI ?_))
              refine ⟨?_, (by (repeat' first | assumption | exact St.Sub.refl _ | exact RowOk.sub (by assumption) (by assumption) | refine St.Sub.trans ?_ (RowOk.sub (by assumption) (by assumption)) | refine St.Sub.add ?_ ?_ _ | refine St.Sub.set ?_ ?_ ?_ _ | refine St.Sub.keep ?_ ?_ | refine St.WF.leave ?_ _ | refine St.WF.add ?_ _ | refine St.WF.set ?_ ?_ _ | refine St.WF.grow ?_ _ _ _ | refine St.WF.keep ?_ ?_ | (first | omega | (simp only [RowOk.lo, nx]; first | done | omega))))⟩
              rfl
          · have hR : numP l = some (accN l (i + 1), i + 1) := by rw [hp, hd, numGo, if_neg hg, if_neg hge, if_neg hz, hacc]
            rw [hR, hacc]
            by_cases hz0 : l[i].toNat = 0
            · have z1 : ((l[i].toNat : Int) == 0) = true := by simp; omega
              have z2 : decide ((0 : Int) < (i : Int)) = false := by simp; omega
              cases b9
              · (simp (disch := first | decide | omega | (simp only [nx]; first | done | omega)) only [go_sem, q5, q8, q9, q10, b1, e1, e2, e3, bD_eq, w7, hs7, hdig, g1, z1, z2, w1]; (repeat with_reducible refine aI ?_))
                refine ⟨?_, (by (repeat' first | assumption | exact St.Sub.refl _ | exact RowOk.sub (by assumption) (by assumption) | refine St.Sub.trans ?_ (RowOk.sub (by assumption) (by assumption)) | refine St.Sub.add ?_ ?_ _ | refine St.Sub.set ?_ ?_ ?_ _ | refine St.Sub.keep ?_ ?_ | refine St.WF.leave ?_ _ | refine St.WF.add ?_ _ | refine St.WF.set ?_ ?_ _ | refine St.WF.grow ?_ _ _ _ | refine St.WF.keep ?_ ?_ | (first | omega | (simp only [RowOk.lo, nx]; first | done | omega))))⟩
                rfl
              · obtain rfl : b8 = false := by simpa using e4
                (simp (disch := first | decide | omega | (simp only [nx]; first | done | omega)) only [go_sem, q5, q8, q9, q10, b1, e1, e2, e3, bD_eq, w7, hs7, hdig, g1, z1, z2, w1]; (repeat with_reducible refine aI ?_))
                refine ⟨?_, (by (repeat' first | assumption | exact St.Sub.refl _ | exact RowOk.sub (by assumption) (by assumption) | refine St.Sub.trans ?_ (RowOk.sub (by assumption) (by assumption)) | refine St.Sub.add ?_ ?_ _ | refine St.Sub.set ?_ ?_ ?_ _ | refine St.Sub.keep ?_ ?_ | refine St.WF.leave ?_ _ | refine St.WF.add ?_ _ | refine St.WF.set ?_ ?_ _ | refine St.WF.grow ?_ _ _ _ | refine St.WF.keep ?_ ?_ | (first | omega | (simp only [RowOk.lo, nx]; first | done | omega))))⟩
                rfl
            · have z1 : ((l[i].toNat : Int) == 0) = false := by simp; omega
              cases b9
              · (simp (disch := first | decide | omega | (simp only [nx]; first | done | omega)) only [go_sem, q5, q8, q9, q10, b1, e1, e2, e3, bD_eq, w7, hs7, hdig, g1, z1, w1]; (repeat with_reducible refine aI ?_))
                refine ⟨?_, (by (repeat' first | assumption | exact St.Sub.refl _ | exact RowOk.sub (by assumption) (by assumption) | refine St.Sub.trans ?_ (RowOk.sub (by assumption) (by assumption)) | refine St.Sub.add ?_ ?_ _ | refine St.Sub.set ?_ ?_ ?_ _ | refine St.Sub.keep ?_ ?_ | refine St.WF.leave ?_ _ | refine St.WF.add ?_ _ | refine St.WF.set ?_ ?_ _ | refine St.WF.grow ?_ _ _ _ | refine St.WF.keep ?_ ?_ | (first | omega | (simp only [RowOk.lo, nx]; first | done | omega))))⟩
                rfl
              · obtain rfl : b8 = false := by simpa using e4
                (simp (disch := first | decide | omega | (simp only [nx]; first | done | omega)) only [go_sem, q5, q8, q9, q10, b1, e1, e2, e3, bD_eq, w7, hs7, hdig, g1, z1, w1]; (repeat with_reducible refine aI ?_))
                refine ⟨?_, (by (repeat' first | assumption | exact St.Sub.refl _ | exact RowOk.sub (by assumption) (by assumption) | refine St.Sub.trans ?_ (RowOk.sub (by assumption) (by assumption)) | refine St.Sub.add ?_ ?_ _ | refine St.Sub.set ?_ ?_ ?_ _ | refine St.Sub.keep ?_ ?_ | refine St.WF.leave ?_ _ | refine St.WF.add ?_ _ | refine St.WF.set ?_ ?_ _ | refine St.WF.grow ?_ _ _ _ | refine St.WF.keep ?_ ?_ | (first | omega | (simp only [RowOk.lo, nx]; first | done | omega))))⟩
                rfl
  · have b1 : decide ((i : Int) < (l.length : Int)) = false := by simp; omega
    have hR : numP l = none := by rw [hp, List.drop_eq_nil_of_le (by omega)]; rfl
    rw [hR]
    (simp (disch := first | decide | omega | (simp only [nx]; first | done | omega)) only [go_sem, q5, q8, q9, q10, b1]; (repeat with_reducible refine aI ?_))
    refine ⟨?_, (by (repeat' first | assumption | exact St.Sub.refl _ | exact RowOk.sub (by assumption) (by assumption) | refine St.Sub.trans ?_ (RowOk.sub (by assumption) (by assumption)) | refine St.Sub.add ?_ ?_ _ | refine St.Sub.set ?_ ?_ ?_ _ | refine St.Sub.keep ?_ ?_ | refine St.WF.leave ?_ _ | refine St.WF.add ?_ _ | refine St.WF.set ?_ ?_ _ | refine St.WF.grow ?_ _ _ _ | refine St.WF.keep ?_ ?_ | (first | omega | (simp only [RowOk.lo, nx]; first | done | omega))))⟩
    rfl
end Go.Proofs.YtbcabejdchkpmaaDoor
