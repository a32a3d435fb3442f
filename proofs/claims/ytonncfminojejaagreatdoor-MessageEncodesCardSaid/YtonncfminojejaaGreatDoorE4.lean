/- Texts of a proof, part 4. Conditions: none. -/
import Derived.Test.YtonncfminojejaaGreatDoorE3
import Derived.Test.YtonncfminojejaaGreatDoorProg
import Derived.KernelRfl
import Derived.Test.YtonncfminojejaaGreatDoorRows
import Derived.ChangeSame
import Derived.ChangeVars
import Derived.JoinedOf
import Derived.LaidLaws
import Derived.LaidHandle
import Derived.Stop.Joined
import Derived.Laws.CopyRow
import Derived.Laws.Externs
import Derived.Stop.BytesEq
import Derived.Shelf.SlSortCmp.Insertion
set_option linter.unusedVariables false
set_option linter.unusedSimpArgs false
namespace Go.Proofs.YtonncfminojejaaGreatDoor

@[go_sem] theorem okT_1 : okT Tryz.prog 1 = true := by kernel_rfl
@[go_sem] theorem szOf_1 : szOf Tryz.prog 1 = 1 := by kernel_rfl
@[go_sem] theorem aggT_1 : aggT Tryz.prog 1 = false := by kernel_rfl
@[go_sem] theorem undS_1 : (Tryz.prog.underlying 1).isSome = true := by kernel_rfl
@[go_sem] theorem infS_1 : (Tryz.prog.info? 1).isSome = true := by kernel_rfl
@[go_sem] theorem ifaceT_1 : ifaceT Tryz.prog 1 = false := by kernel_rfl
@[go_sem] theorem ptrT_1 : ptrT Tryz.prog 1 = false := by kernel_rfl
@[go_sem] theorem zeroT_1 : zeroT Tryz.prog 1 = true := by kernel_rfl
@[go_sem] theorem zeroOk_1 : zeroOk Tryz.prog 1 = true := by kernel_rfl
@[go_sem] theorem bytesOf_1 : bytesOf Tryz.prog 1 = 8 := by kernel_rfl
@[go_sem] theorem zeroD_1 : zeroD Tryz.prog 1 = [.v .nilFunc] := by kernel_rfl
@[go_sem] theorem okT_2 : okT Tryz.prog 2 = true := by kernel_rfl
@[go_sem] theorem szOf_2 : szOf Tryz.prog 2 = 1 := by kernel_rfl
@[go_sem] theorem aggT_2 : aggT Tryz.prog 2 = false := by kernel_rfl
@[go_sem] theorem undS_2 : (Tryz.prog.underlying 2).isSome = true := by kernel_rfl
@[go_sem] theorem infS_2 : (Tryz.prog.info? 2).isSome = true := by kernel_rfl
@[go_sem] theorem ifaceT_2 : ifaceT Tryz.prog 2 = false := by kernel_rfl
@[go_sem] theorem ptrT_2 : ptrT Tryz.prog 2 = false := by kernel_rfl
@[go_sem] theorem zeroT_2 : zeroT Tryz.prog 2 = true := by kernel_rfl
@[go_sem] theorem zeroOk_2 : zeroOk Tryz.prog 2 = true := by kernel_rfl
@[go_sem] theorem bytesOf_2 : bytesOf Tryz.prog 2 = 8 := by kernel_rfl
@[go_sem] theorem zeroD_2 : zeroD Tryz.prog 2 = [.v (.int .i64 0)] := by kernel_rfl
@[go_sem] theorem okT_3 : okT Tryz.prog 3 = true := by kernel_rfl
@[go_sem] theorem szOf_3 : szOf Tryz.prog 3 = 1 := by kernel_rfl
@[go_sem] theorem aggT_3 : aggT Tryz.prog 3 = false := by kernel_rfl
@[go_sem] theorem undS_3 : (Tryz.prog.underlying 3).isSome = true := by kernel_rfl
@[go_sem] theorem infS_3 : (Tryz.prog.info? 3).isSome = true := by kernel_rfl
@[go_sem] theorem ifaceT_3 : ifaceT Tryz.prog 3 = false := by kernel_rfl
@[go_sem] theorem ptrT_3 : ptrT Tryz.prog 3 = false := by kernel_rfl
@[go_sem] theorem zeroT_3 : zeroT Tryz.prog 3 = true := by kernel_rfl
@[go_sem] theorem zeroOk_3 : zeroOk Tryz.prog 3 = true := by kernel_rfl
@[go_sem] theorem bytesOf_3 : bytesOf Tryz.prog 3 = 8 := by kernel_rfl
@[go_sem] theorem zeroD_3 : zeroD Tryz.prog 3 = [.v (.int .i64 0)] := by kernel_rfl
@[go_sem] theorem okT_4 : okT Tryz.prog 4 = true := by kernel_rfl
@[go_sem] theorem szOf_4 : szOf Tryz.prog 4 = 1 := by kernel_rfl
@[go_sem] theorem aggT_4 : aggT Tryz.prog 4 = false := by kernel_rfl
@[go_sem] theorem undS_4 : (Tryz.prog.underlying 4).isSome = true := by kernel_rfl
@[go_sem] theorem infS_4 : (Tryz.prog.info? 4).isSome = true := by kernel_rfl
@[go_sem] theorem ifaceT_4 : ifaceT Tryz.prog 4 = false := by kernel_rfl
@[go_sem] theorem ptrT_4 : ptrT Tryz.prog 4 = false := by kernel_rfl
@[go_sem] theorem zeroT_4 : zeroT Tryz.prog 4 = true := by kernel_rfl
@[go_sem] theorem zeroOk_4 : zeroOk Tryz.prog 4 = true := by kernel_rfl
@[go_sem] theorem bytesOf_4 : bytesOf Tryz.prog 4 = 1 := by kernel_rfl
@[go_sem] theorem zeroD_4 : zeroD Tryz.prog 4 = [.v (.bool false)] := by kernel_rfl
@[go_sem] theorem okT_5 : okT Tryz.prog 5 = true := by kernel_rfl
@[go_sem] theorem szOf_5 : szOf Tryz.prog 5 = 1 := by kernel_rfl
@[go_sem] theorem aggT_5 : aggT Tryz.prog 5 = false := by kernel_rfl
@[go_sem] theorem undS_5 : (Tryz.prog.underlying 5).isSome = true := by kernel_rfl
@[go_sem] theorem infS_5 : (Tryz.prog.info? 5).isSome = true := by kernel_rfl
@[go_sem] theorem ifaceT_5 : ifaceT Tryz.prog 5 = false := by kernel_rfl
@[go_sem] theorem ptrT_5 : ptrT Tryz.prog 5 = false := by kernel_rfl
@[go_sem] theorem zeroT_5 : zeroT Tryz.prog 5 = true := by kernel_rfl
@[go_sem] theorem zeroOk_5 : zeroOk Tryz.prog 5 = true := by kernel_rfl
@[go_sem] theorem bytesOf_5 : bytesOf Tryz.prog 5 = 1 := by kernel_rfl
@[go_sem] theorem zeroD_5 : zeroD Tryz.prog 5 = [.v (.int .u8 0)] := by kernel_rfl
@[go_sem] theorem okT_6 : okT Tryz.prog 6 = true := by kernel_rfl
@[go_sem] theorem szOf_6 : szOf Tryz.prog 6 = 1 := by kernel_rfl
@[go_sem] theorem aggT_6 : aggT Tryz.prog 6 = false := by kernel_rfl
@[go_sem] theorem undS_6 : (Tryz.prog.underlying 6).isSome = true := by kernel_rfl
@[go_sem] theorem infS_6 : (Tryz.prog.info? 6).isSome = true := by kernel_rfl
@[go_sem] theorem ifaceT_6 : ifaceT Tryz.prog 6 = false := by kernel_rfl
@[go_sem] theorem ptrT_6 : ptrT Tryz.prog 6 = false := by kernel_rfl
@[go_sem] theorem zeroT_6 : zeroT Tryz.prog 6 = true := by kernel_rfl
@[go_sem] theorem zeroOk_6 : zeroOk Tryz.prog 6 = true := by kernel_rfl
@[go_sem] theorem bytesOf_6 : bytesOf Tryz.prog 6 = 1 := by kernel_rfl
@[go_sem] theorem zeroD_6 : zeroD Tryz.prog 6 = [.v (.int .u8 0)] := by kernel_rfl
@[go_sem] theorem okT_7 : okT Tryz.prog 7 = true := by kernel_rfl
@[go_sem] theorem szOf_7 : szOf Tryz.prog 7 = 4 := by kernel_rfl
@[go_sem] theorem aggT_7 : aggT Tryz.prog 7 = true := by kernel_rfl
@[go_sem] theorem undS_7 : (Tryz.prog.underlying 7).isSome = true := by kernel_rfl
@[go_sem] theorem infS_7 : (Tryz.prog.info? 7).isSome = true := by kernel_rfl
@[go_sem] theorem ifaceT_7 : ifaceT Tryz.prog 7 = false := by kernel_rfl
@[go_sem] theorem ptrT_7 : ptrT Tryz.prog 7 = false := by kernel_rfl
@[go_sem] theorem zeroT_7 : zeroT Tryz.prog 7 = true := by kernel_rfl
@[go_sem] theorem zeroOk_7 : zeroOk Tryz.prog 7 = true := by kernel_rfl
@[go_sem] theorem bytesOf_7 : bytesOf Tryz.prog 7 = 24 := by kernel_rfl
@[go_sem] theorem zeroD_7 : zeroD Tryz.prog 7 = [.v (.int .i64 0), .v (.int .i64 0), .v (.bool false), .v (.int .u8 0)] := by kernel_rfl
@[go_sem] theorem fld_7_0 : fld Tryz.prog 7 0 = some (0, 2) := by kernel_rfl
@[go_sem] theorem fld_7_1 : fld Tryz.prog 7 1 = some (1, 3) := by kernel_rfl
@[go_sem] theorem fld_7_2 : fld Tryz.prog 7 2 = some (2, 4) := by kernel_rfl
@[go_sem] theorem fld_7_3 : fld Tryz.prog 7 3 = some (3, 6) := by kernel_rfl
@[go_sem] theorem okT_8 : okT Tryz.prog 8 = true := by kernel_rfl
@[go_sem] theorem szOf_8 : szOf Tryz.prog 8 = 4 := by kernel_rfl
@[go_sem] theorem aggT_8 : aggT Tryz.prog 8 = true := by kernel_rfl
@[go_sem] theorem undS_8 : (Tryz.prog.underlying 8).isSome = true := by kernel_rfl
@[go_sem] theorem infS_8 : (Tryz.prog.info? 8).isSome = true := by kernel_rfl
@[go_sem] theorem ifaceT_8 : ifaceT Tryz.prog 8 = false := by kernel_rfl
@[go_sem] theorem ptrT_8 : ptrT Tryz.prog 8 = false := by kernel_rfl
@[go_sem] theorem zeroT_8 : zeroT Tryz.prog 8 = true := by kernel_rfl
@[go_sem] theorem zeroOk_8 : zeroOk Tryz.prog 8 = true := by kernel_rfl
@[go_sem] theorem bytesOf_8 : bytesOf Tryz.prog 8 = 24 := by kernel_rfl
@[go_sem] theorem zeroD_8 : zeroD Tryz.prog 8 = [.v (.int .i64 0), .v (.int .i64 0), .v (.bool false), .v (.int .u8 0)] := by kernel_rfl
@[go_sem] theorem fld_8_0 : fld Tryz.prog 8 0 = some (0, 2) := by kernel_rfl
@[go_sem] theorem fld_8_1 : fld Tryz.prog 8 1 = some (1, 3) := by kernel_rfl
@[go_sem] theorem fld_8_2 : fld Tryz.prog 8 2 = some (2, 4) := by kernel_rfl
@[go_sem] theorem fld_8_3 : fld Tryz.prog 8 3 = some (3, 6) := by kernel_rfl
@[go_sem] theorem okT_9 : okT Tryz.prog 9 = true := by kernel_rfl
@[go_sem] theorem szOf_9 : szOf Tryz.prog 9 = 1 := by kernel_rfl
@[go_sem] theorem aggT_9 : aggT Tryz.prog 9 = false := by kernel_rfl
@[go_sem] theorem undS_9 : (Tryz.prog.underlying 9).isSome = true := by kernel_rfl
@[go_sem] theorem infS_9 : (Tryz.prog.info? 9).isSome = true := by kernel_rfl
@[go_sem] theorem ifaceT_9 : ifaceT Tryz.prog 9 = false := by kernel_rfl
@[go_sem] theorem ptrT_9 : ptrT Tryz.prog 9 = false := by kernel_rfl
@[go_sem] theorem zeroT_9 : zeroT Tryz.prog 9 = true := by kernel_rfl
@[go_sem] theorem zeroOk_9 : zeroOk Tryz.prog 9 = true := by kernel_rfl
@[go_sem] theorem bytesOf_9 : bytesOf Tryz.prog 9 = 16 := by kernel_rfl
@[go_sem] theorem zeroD_9 : zeroD Tryz.prog 9 = [.v (.string ⟨#[]⟩)] := by kernel_rfl
@[go_sem] theorem strT_9 : strT Tryz.prog 9 = true := by kernel_rfl
@[go_sem] theorem okT_10 : okT Tryz.prog 10 = true := by kernel_rfl
@[go_sem] theorem szOf_10 : szOf Tryz.prog 10 = 1 := by kernel_rfl
@[go_sem] theorem aggT_10 : aggT Tryz.prog 10 = false := by kernel_rfl
@[go_sem] theorem undS_10 : (Tryz.prog.underlying 10).isSome = true := by kernel_rfl
@[go_sem] theorem infS_10 : (Tryz.prog.info? 10).isSome = true := by kernel_rfl
@[go_sem] theorem ifaceT_10 : ifaceT Tryz.prog 10 = false := by kernel_rfl
@[go_sem] theorem ptrT_10 : ptrT Tryz.prog 10 = false := by kernel_rfl
@[go_sem] theorem zeroT_10 : zeroT Tryz.prog 10 = true := by kernel_rfl
@[go_sem] theorem zeroOk_10 : zeroOk Tryz.prog 10 = true := by kernel_rfl
@[go_sem] theorem bytesOf_10 : bytesOf Tryz.prog 10 = 16 := by kernel_rfl
@[go_sem] theorem zeroD_10 : zeroD Tryz.prog 10 = [.v (.string ⟨#[]⟩)] := by kernel_rfl
@[go_sem] theorem strT_10 : strT Tryz.prog 10 = true := by kernel_rfl
@[go_sem] theorem okT_11 : okT Tryz.prog 11 = true := by kernel_rfl
@[go_sem] theorem szOf_11 : szOf Tryz.prog 11 = 1 := by kernel_rfl
@[go_sem] theorem aggT_11 : aggT Tryz.prog 11 = false := by kernel_rfl
@[go_sem] theorem undS_11 : (Tryz.prog.underlying 11).isSome = true := by kernel_rfl
@[go_sem] theorem infS_11 : (Tryz.prog.info? 11).isSome = true := by kernel_rfl
@[go_sem] theorem ifaceT_11 : ifaceT Tryz.prog 11 = false := by kernel_rfl
@[go_sem] theorem ptrT_11 : ptrT Tryz.prog 11 = false := by kernel_rfl
@[go_sem] theorem zeroT_11 : zeroT Tryz.prog 11 = true := by kernel_rfl
@[go_sem] theorem zeroOk_11 : zeroOk Tryz.prog 11 = true := by kernel_rfl
@[go_sem] theorem bytesOf_11 : bytesOf Tryz.prog 11 = 16 := by kernel_rfl
@[go_sem] theorem zeroD_11 : zeroD Tryz.prog 11 = [.v (.string ⟨#[]⟩)] := by kernel_rfl
@[go_sem] theorem strT_11 : strT Tryz.prog 11 = true := by kernel_rfl
@[go_sem] theorem okT_12 : okT Tryz.prog 12 = true := by kernel_rfl
@[go_sem] theorem szOf_12 : szOf Tryz.prog 12 = 1 := by kernel_rfl
@[go_sem] theorem aggT_12 : aggT Tryz.prog 12 = false := by kernel_rfl
@[go_sem] theorem undS_12 : (Tryz.prog.underlying 12).isSome = true := by kernel_rfl
@[go_sem] theorem infS_12 : (Tryz.prog.info? 12).isSome = true := by kernel_rfl
@[go_sem] theorem ifaceT_12 : ifaceT Tryz.prog 12 = false := by kernel_rfl
@[go_sem] theorem ptrT_12 : ptrT Tryz.prog 12 = false := by kernel_rfl
@[go_sem] theorem zeroT_12 : zeroT Tryz.prog 12 = true := by kernel_rfl
@[go_sem] theorem zeroOk_12 : zeroOk Tryz.prog 12 = true := by kernel_rfl
@[go_sem] theorem bytesOf_12 : bytesOf Tryz.prog 12 = 8 := by kernel_rfl
@[go_sem] theorem zeroD_12 : zeroD Tryz.prog 12 = [.v (.int .u64 0)] := by kernel_rfl
@[go_sem] theorem okT_13 : okT Tryz.prog 13 = true := by kernel_rfl
@[go_sem] theorem szOf_13 : szOf Tryz.prog 13 = 2 := by kernel_rfl
@[go_sem] theorem aggT_13 : aggT Tryz.prog 13 = true := by kernel_rfl
@[go_sem] theorem undS_13 : (Tryz.prog.underlying 13).isSome = true := by kernel_rfl
@[go_sem] theorem infS_13 : (Tryz.prog.info? 13).isSome = true := by kernel_rfl
@[go_sem] theorem ifaceT_13 : ifaceT Tryz.prog 13 = false := by kernel_rfl
@[go_sem] theorem ptrT_13 : ptrT Tryz.prog 13 = false := by kernel_rfl
@[go_sem] theorem zeroT_13 : zeroT Tryz.prog 13 = true := by kernel_rfl
@[go_sem] theorem zeroOk_13 : zeroOk Tryz.prog 13 = true := by kernel_rfl
@[go_sem] theorem bytesOf_13 : bytesOf Tryz.prog 13 = 24 := by kernel_rfl
@[go_sem] theorem zeroD_13 : zeroD Tryz.prog 13 = [.v (.string ⟨#[]⟩), .v (.int .u64 0)] := by kernel_rfl
@[go_sem] theorem fld_13_0 : fld Tryz.prog 13 0 = some (0, 9) := by kernel_rfl
@[go_sem] theorem fld_13_1 : fld Tryz.prog 13 1 = some (1, 12) := by kernel_rfl
@[go_sem] theorem okT_14 : okT Tryz.prog 14 = true := by kernel_rfl
@[go_sem] theorem szOf_14 : szOf Tryz.prog 14 = 2 := by kernel_rfl
@[go_sem] theorem aggT_14 : aggT Tryz.prog 14 = true := by kernel_rfl
@[go_sem] theorem undS_14 : (Tryz.prog.underlying 14).isSome = true := by kernel_rfl
@[go_sem] theorem infS_14 : (Tryz.prog.info? 14).isSome = true := by kernel_rfl
@[go_sem] theorem ifaceT_14 : ifaceT Tryz.prog 14 = false := by kernel_rfl
@[go_sem] theorem ptrT_14 : ptrT Tryz.prog 14 = false := by kernel_rfl
@[go_sem] theorem zeroT_14 : zeroT Tryz.prog 14 = true := by kernel_rfl
@[go_sem] theorem zeroOk_14 : zeroOk Tryz.prog 14 = true := by kernel_rfl
@[go_sem] theorem bytesOf_14 : bytesOf Tryz.prog 14 = 24 := by kernel_rfl
@[go_sem] theorem zeroD_14 : zeroD Tryz.prog 14 = [.v (.string ⟨#[]⟩), .v (.int .u64 0)] := by kernel_rfl
@[go_sem] theorem fld_14_0 : fld Tryz.prog 14 0 = some (0, 9) := by kernel_rfl
@[go_sem] theorem fld_14_1 : fld Tryz.prog 14 1 = some (1, 12) := by kernel_rfl
@[go_sem] theorem okT_15 : okT Tryz.prog 15 = true := by kernel_rfl
@[go_sem] theorem szOf_15 : szOf Tryz.prog 15 = 1 := by kernel_rfl
@[go_sem] theorem aggT_15 : aggT Tryz.prog 15 = false := by kernel_rfl
@[go_sem] theorem undS_15 : (Tryz.prog.underlying 15).isSome = true := by kernel_rfl
@[go_sem] theorem infS_15 : (Tryz.prog.info? 15).isSome = true := by kernel_rfl
@[go_sem] theorem ifaceT_15 : ifaceT Tryz.prog 15 = false := by kernel_rfl
@[go_sem] theorem ptrT_15 : ptrT Tryz.prog 15 = true := by kernel_rfl
@[go_sem] theorem zeroT_15 : zeroT Tryz.prog 15 = true := by kernel_rfl
@[go_sem] theorem zeroOk_15 : zeroOk Tryz.prog 15 = true := by kernel_rfl
@[go_sem] theorem bytesOf_15 : bytesOf Tryz.prog 15 = 8 := by kernel_rfl
@[go_sem] theorem zeroD_15 : zeroD Tryz.prog 15 = [.v (.pointer none)] := by kernel_rfl
@[go_sem] theorem okT_17 : okT Tryz.prog 17 = true := by kernel_rfl
@[go_sem] theorem szOf_17 : szOf Tryz.prog 17 = 1 := by kernel_rfl
@[go_sem] theorem aggT_17 : aggT Tryz.prog 17 = false := by kernel_rfl
@[go_sem] theorem undS_17 : (Tryz.prog.underlying 17).isSome = true := by kernel_rfl
@[go_sem] theorem infS_17 : (Tryz.prog.info? 17).isSome = true := by kernel_rfl
@[go_sem] theorem ifaceT_17 : ifaceT Tryz.prog 17 = false := by kernel_rfl
@[go_sem] theorem ptrT_17 : ptrT Tryz.prog 17 = true := by kernel_rfl
@[go_sem] theorem zeroT_17 : zeroT Tryz.prog 17 = true := by kernel_rfl
@[go_sem] theorem zeroOk_17 : zeroOk Tryz.prog 17 = true := by kernel_rfl
@[go_sem] theorem bytesOf_17 : bytesOf Tryz.prog 17 = 8 := by kernel_rfl
@[go_sem] theorem zeroD_17 : zeroD Tryz.prog 17 = [.v (.pointer none)] := by kernel_rfl
@[go_sem] theorem okT_19 : okT Tryz.prog 19 = true := by kernel_rfl
@[go_sem] theorem szOf_19 : szOf Tryz.prog 19 = 1 := by kernel_rfl
@[go_sem] theorem aggT_19 : aggT Tryz.prog 19 = true := by kernel_rfl
@[go_sem] theorem undS_19 : (Tryz.prog.underlying 19).isSome = true := by kernel_rfl
@[go_sem] theorem infS_19 : (Tryz.prog.info? 19).isSome = true := by kernel_rfl
@[go_sem] theorem ifaceT_19 : ifaceT Tryz.prog 19 = false := by kernel_rfl
@[go_sem] theorem ptrT_19 : ptrT Tryz.prog 19 = false := by kernel_rfl
@[go_sem] theorem zeroT_19 : zeroT Tryz.prog 19 = true := by kernel_rfl
@[go_sem] theorem zeroOk_19 : zeroOk Tryz.prog 19 = true := by kernel_rfl
@[go_sem] theorem bytesOf_19 : bytesOf Tryz.prog 19 = 8 := by kernel_rfl
@[go_sem] theorem zeroD_19 : zeroD Tryz.prog 19 = [.v (.pointer none)] := by kernel_rfl
@[go_sem] theorem fld_19_0 : fld Tryz.prog 19 0 = some (0, 17) := by kernel_rfl
@[go_sem] theorem okT_20 : okT Tryz.prog 20 = true := by kernel_rfl
@[go_sem] theorem szOf_20 : szOf Tryz.prog 20 = 1 := by kernel_rfl
@[go_sem] theorem aggT_20 : aggT Tryz.prog 20 = false := by kernel_rfl
@[go_sem] theorem undS_20 : (Tryz.prog.underlying 20).isSome = true := by kernel_rfl
@[go_sem] theorem infS_20 : (Tryz.prog.info? 20).isSome = true := by kernel_rfl
@[go_sem] theorem ifaceT_20 : ifaceT Tryz.prog 20 = true := by kernel_rfl
@[go_sem] theorem ptrT_20 : ptrT Tryz.prog 20 = false := by kernel_rfl
@[go_sem] theorem zeroT_20 : zeroT Tryz.prog 20 = true := by kernel_rfl
@[go_sem] theorem zeroOk_20 : zeroOk Tryz.prog 20 = true := by kernel_rfl
@[go_sem] theorem bytesOf_20 : bytesOf Tryz.prog 20 = 16 := by kernel_rfl
@[go_sem] theorem zeroD_20 : zeroD Tryz.prog 20 = [.v .nilIface] := by kernel_rfl
@[go_sem] theorem okT_21 : okT Tryz.prog 21 = true := by kernel_rfl
@[go_sem] theorem szOf_21 : szOf Tryz.prog 21 = 1 := by kernel_rfl
@[go_sem] theorem aggT_21 : aggT Tryz.prog 21 = false := by kernel_rfl
@[go_sem] theorem undS_21 : (Tryz.prog.underlying 21).isSome = true := by kernel_rfl
@[go_sem] theorem infS_21 : (Tryz.prog.info? 21).isSome = true := by kernel_rfl
@[go_sem] theorem ifaceT_21 : ifaceT Tryz.prog 21 = false := by kernel_rfl
@[go_sem] theorem ptrT_21 : ptrT Tryz.prog 21 = false := by kernel_rfl
@[go_sem] theorem zeroT_21 : zeroT Tryz.prog 21 = true := by kernel_rfl
@[go_sem] theorem zeroOk_21 : zeroOk Tryz.prog 21 = true := by kernel_rfl
@[go_sem] theorem bytesOf_21 : bytesOf Tryz.prog 21 = 4 := by kernel_rfl
@[go_sem] theorem zeroD_21 : zeroD Tryz.prog 21 = [.v (.int .i32 0)] := by kernel_rfl
@[go_sem] theorem okT_22 : okT Tryz.prog 22 = true := by kernel_rfl
@[go_sem] theorem szOf_22 : szOf Tryz.prog 22 = 1 := by kernel_rfl
@[go_sem] theorem aggT_22 : aggT Tryz.prog 22 = false := by kernel_rfl
@[go_sem] theorem undS_22 : (Tryz.prog.underlying 22).isSome = true := by kernel_rfl
@[go_sem] theorem infS_22 : (Tryz.prog.info? 22).isSome = true := by kernel_rfl
@[go_sem] theorem ifaceT_22 : ifaceT Tryz.prog 22 = false := by kernel_rfl
@[go_sem] theorem ptrT_22 : ptrT Tryz.prog 22 = false := by kernel_rfl
@[go_sem] theorem zeroT_22 : zeroT Tryz.prog 22 = true := by kernel_rfl
@[go_sem] theorem zeroOk_22 : zeroOk Tryz.prog 22 = true := by kernel_rfl
@[go_sem] theorem bytesOf_22 : bytesOf Tryz.prog 22 = 24 := by kernel_rfl
@[go_sem] theorem zeroD_22 : zeroD Tryz.prog 22 = [.sl .full []] := by kernel_rfl
@[go_sem] theorem elT_22 : elT Tryz.prog 22 = some 5 := by kernel_rfl
@[go_sem] theorem bul_22 (own : Own) (es : List D) (ty : TypeId) (cs : Array Bool) : dbuiltin Tryz.prog .len #[22] ty cs [.sl own es] = some (True, .v (.int .i64 es.length)) := bu_len own es _ ty cs elT_22
@[go_sem] theorem bwl_22 (k off n c : Nat) (ty : TypeId) (cs : Array Bool) : dbuiltin Tryz.prog .len #[22] ty cs [.win k off n c] = some (True, .v (.int .i64 n)) := bu_wlen k off n c _ ty cs elT_22
@[go_sem] theorem okT_24 : okT Tryz.prog 24 = true := by kernel_rfl
@[go_sem] theorem szOf_24 : szOf Tryz.prog 24 = 64 := by kernel_rfl
@[go_sem] theorem aggT_24 : aggT Tryz.prog 24 = true := by kernel_rfl
@[go_sem] theorem undS_24 : (Tryz.prog.underlying 24).isSome = true := by kernel_rfl
@[go_sem] theorem infS_24 : (Tryz.prog.info? 24).isSome = true := by kernel_rfl
@[go_sem] theorem ifaceT_24 : ifaceT Tryz.prog 24 = false := by kernel_rfl
@[go_sem] theorem ptrT_24 : ptrT Tryz.prog 24 = false := by kernel_rfl
@[go_sem] theorem zeroT_24 : zeroT Tryz.prog 24 = true := by kernel_rfl
@[go_sem] theorem zeroOk_24 : zeroOk Tryz.prog 24 = true := by kernel_rfl
@[go_sem] theorem bytesOf_24 : bytesOf Tryz.prog 24 = 64 := by kernel_rfl
@[go_sem] theorem zeroD_24 : zeroD Tryz.prog 24 = [.v (.int .u8 0), .v (.int .u8 0), .v (.int .u8 0), .v (.int .u8 0), .v (.int .u8 0), .v (.int .u8 0), .v (.int .u8 0), .v (.int .u8 0), .v (.int .u8 0), .v (.int .u8 0), .v (.int .u8 0), .v (.int .u8 0), .v (.int .u8 0), .v (.int .u8 0), .v (.int .u8 0), .v (.int .u8 0), .v (.int .u8 0), .v (.int .u8 0), .v (.int .u8 0), .v (.int .u8 0), .v (.int .u8 0), .v (.int .u8 0), .v (.int .u8 0), .v (.int .u8 0), .v (.int .u8 0), .v (.int .u8 0), .v (.int .u8 0), .v (.int .u8 0), .v (.int .u8 0), .v (.int .u8 0), .v (.int .u8 0), .v (.int .u8 0), .v (.int .u8 0), .v (.int .u8 0), .v (.int .u8 0), .v (.int .u8 0), .v (.int .u8 0), .v (.int .u8 0), .v (.int .u8 0), .v (.int .u8 0), .v (.int .u8 0), .v (.int .u8 0), .v (.int .u8 0), .v (.int .u8 0), .v (.int .u8 0), .v (.int .u8 0), .v (.int .u8 0), .v (.int .u8 0), .v (.int .u8 0), .v (.int .u8 0), .v (.int .u8 0), .v (.int .u8 0), .v (.int .u8 0), .v (.int .u8 0), .v (.int .u8 0), .v (.int .u8 0), .v (.int .u8 0), .v (.int .u8 0), .v (.int .u8 0), .v (.int .u8 0), .v (.int .u8 0), .v (.int .u8 0), .v (.int .u8 0), .v (.int .u8 0)] := by kernel_rfl
@[go_sem] theorem arT_24 : arT Tryz.prog 24 = some (64, 5) := by kernel_rfl
@[go_sem] theorem okT_25 : okT Tryz.prog 25 = true := by kernel_rfl
@[go_sem] theorem szOf_25 : szOf Tryz.prog 25 = 1 := by kernel_rfl
@[go_sem] theorem aggT_25 : aggT Tryz.prog 25 = false := by kernel_rfl
@[go_sem] theorem undS_25 : (Tryz.prog.underlying 25).isSome = true := by kernel_rfl
@[go_sem] theorem infS_25 : (Tryz.prog.info? 25).isSome = true := by kernel_rfl
@[go_sem] theorem ifaceT_25 : ifaceT Tryz.prog 25 = false := by kernel_rfl
@[go_sem] theorem ptrT_25 : ptrT Tryz.prog 25 = false := by kernel_rfl
@[go_sem] theorem zeroT_25 : zeroT Tryz.prog 25 = true := by kernel_rfl
@[go_sem] theorem zeroOk_25 : zeroOk Tryz.prog 25 = true := by kernel_rfl
@[go_sem] theorem bytesOf_25 : bytesOf Tryz.prog 25 = 24 := by kernel_rfl
@[go_sem] theorem zeroD_25 : zeroD Tryz.prog 25 = [.sl .full []] := by kernel_rfl
@[go_sem] theorem elT_25 : elT Tryz.prog 25 = some 45 := by kernel_rfl
@[go_sem] theorem bul_25 (own : Own) (es : List D) (ty : TypeId) (cs : Array Bool) : dbuiltin Tryz.prog .len #[25] ty cs [.sl own es] = some (True, .v (.int .i64 es.length)) := bu_len own es _ ty cs elT_25
@[go_sem] theorem bwl_25 (k off n c : Nat) (ty : TypeId) (cs : Array Bool) : dbuiltin Tryz.prog .len #[25] ty cs [.win k off n c] = some (True, .v (.int .i64 n)) := bu_wlen k off n c _ ty cs elT_25
@[go_sem] theorem okT_26 : okT Tryz.prog 26 = true := by kernel_rfl
@[go_sem] theorem szOf_26 : szOf Tryz.prog 26 = 1 := by kernel_rfl
@[go_sem] theorem aggT_26 : aggT Tryz.prog 26 = false := by kernel_rfl
@[go_sem] theorem undS_26 : (Tryz.prog.underlying 26).isSome = true := by kernel_rfl
@[go_sem] theorem infS_26 : (Tryz.prog.info? 26).isSome = true := by kernel_rfl
@[go_sem] theorem ifaceT_26 : ifaceT Tryz.prog 26 = false := by kernel_rfl
@[go_sem] theorem ptrT_26 : ptrT Tryz.prog 26 = false := by kernel_rfl
@[go_sem] theorem zeroT_26 : zeroT Tryz.prog 26 = true := by kernel_rfl
@[go_sem] theorem zeroOk_26 : zeroOk Tryz.prog 26 = true := by kernel_rfl
@[go_sem] theorem bytesOf_26 : bytesOf Tryz.prog 26 = 24 := by kernel_rfl
@[go_sem] theorem zeroD_26 : zeroD Tryz.prog 26 = [.sl .full []] := by kernel_rfl
@[go_sem] theorem elT_26 : elT Tryz.prog 26 = some 22 := by kernel_rfl
@[go_sem] theorem bul_26 (own : Own) (es : List D) (ty : TypeId) (cs : Array Bool) : dbuiltin Tryz.prog .len #[26] ty cs [.sl own es] = some (True, .v (.int .i64 es.length)) := bu_len own es _ ty cs elT_26
@[go_sem] theorem bwl_26 (k off n c : Nat) (ty : TypeId) (cs : Array Bool) : dbuiltin Tryz.prog .len #[26] ty cs [.win k off n c] = some (True, .v (.int .i64 n)) := bu_wlen k off n c _ ty cs elT_26
@[go_sem] theorem okT_28 : okT Tryz.prog 28 = true := by kernel_rfl
@[go_sem] theorem szOf_28 : szOf Tryz.prog 28 = 68 := by kernel_rfl
@[go_sem] theorem aggT_28 : aggT Tryz.prog 28 = true := by kernel_rfl
@[go_sem] theorem undS_28 : (Tryz.prog.underlying 28).isSome = true := by kernel_rfl
@[go_sem] theorem infS_28 : (Tryz.prog.info? 28).isSome = true := by kernel_rfl
@[go_sem] theorem ifaceT_28 : ifaceT Tryz.prog 28 = false := by kernel_rfl
@[go_sem] theorem ptrT_28 : ptrT Tryz.prog 28 = false := by kernel_rfl
@[go_sem] theorem zeroT_28 : zeroT Tryz.prog 28 = true := by kernel_rfl
@[go_sem] theorem zeroOk_28 : zeroOk Tryz.prog 28 = true := by kernel_rfl
@[go_sem] theorem bytesOf_28 : bytesOf Tryz.prog 28 = 128 := by kernel_rfl
@[go_sem] theorem zeroD_28 : zeroD Tryz.prog 28 = [.v (.int .i64 0), .v (.bool false), .v (.int .u8 0), .v (.int .u8 0), .v (.int .u8 0), .v (.int .u8 0), .v (.int .u8 0), .v (.int .u8 0), .v (.int .u8 0), .v (.int .u8 0), .v (.int .u8 0), .v (.int .u8 0), .v (.int .u8 0), .v (.int .u8 0), .v (.int .u8 0), .v (.int .u8 0), .v (.int .u8 0), .v (.int .u8 0), .v (.int .u8 0), .v (.int .u8 0), .v (.int .u8 0), .v (.int .u8 0), .v (.int .u8 0), .v (.int .u8 0), .v (.int .u8 0), .v (.int .u8 0), .v (.int .u8 0), .v (.int .u8 0), .v (.int .u8 0), .v (.int .u8 0), .v (.int .u8 0), .v (.int .u8 0), .v (.int .u8 0), .v (.int .u8 0), .v (.int .u8 0), .v (.int .u8 0), .v (.int .u8 0), .v (.int .u8 0), .v (.int .u8 0), .v (.int .u8 0), .v (.int .u8 0), .v (.int .u8 0), .v (.int .u8 0), .v (.int .u8 0), .v (.int .u8 0), .v (.int .u8 0), .v (.int .u8 0), .v (.int .u8 0), .v (.int .u8 0), .v (.int .u8 0), .v (.int .u8 0), .v (.int .u8 0), .v (.int .u8 0), .v (.int .u8 0), .v (.int .u8 0), .v (.int .u8 0), .v (.int .u8 0), .v (.int .u8 0), .v (.int .u8 0), .v (.int .u8 0), .v (.int .u8 0), .v (.int .u8 0), .v (.int .u8 0), .v (.int .u8 0), .v (.int .u8 0), .v (.int .u8 0), .sl .full [], .sl .full []] := by kernel_rfl
@[go_sem] theorem fld_28_0 : fld Tryz.prog 28 0 = some (0, 3) := by kernel_rfl
@[go_sem] theorem fld_28_1 : fld Tryz.prog 28 1 = some (1, 4) := by kernel_rfl
@[go_sem] theorem fld_28_2 : fld Tryz.prog 28 2 = some (2, 24) := by kernel_rfl
@[go_sem] theorem fld_28_3 : fld Tryz.prog 28 3 = some (66, 25) := by kernel_rfl
@[go_sem] theorem fld_28_4 : fld Tryz.prog 28 4 = some (67, 26) := by kernel_rfl
noncomputable def pl28 : Nat → Option (Nat × Nat) := (placeT Tryz.prog 28).getD fun _ => none
@[go_sem] theorem placeT_28 : placeT Tryz.prog 28 = some pl28 := by kernel_rfl
@[go_sem] theorem pl_28_0 : pl28 0 = some (0, 1) := by kernel_rfl
@[go_sem] theorem pl_28_1 : pl28 1 = some (1, 1) := by kernel_rfl
@[go_sem] theorem pl_28_2 : pl28 2 = some (2, 64) := by kernel_rfl
@[go_sem] theorem pl_28_3 : pl28 3 = some (66, 1) := by kernel_rfl
@[go_sem] theorem pl_28_4 : pl28 4 = some (67, 1) := by kernel_rfl
@[go_sem] theorem okT_30 : okT Tryz.prog 30 = true := by kernel_rfl
@[go_sem] theorem szOf_30 : szOf Tryz.prog 30 = 1 := by kernel_rfl
@[go_sem] theorem aggT_30 : aggT Tryz.prog 30 = false := by kernel_rfl
@[go_sem] theorem undS_30 : (Tryz.prog.underlying 30).isSome = true := by kernel_rfl
@[go_sem] theorem infS_30 : (Tryz.prog.info? 30).isSome = true := by kernel_rfl
@[go_sem] theorem ifaceT_30 : ifaceT Tryz.prog 30 = true := by kernel_rfl
@[go_sem] theorem ptrT_30 : ptrT Tryz.prog 30 = false := by kernel_rfl
@[go_sem] theorem zeroT_30 : zeroT Tryz.prog 30 = true := by kernel_rfl
@[go_sem] theorem zeroOk_30 : zeroOk Tryz.prog 30 = true := by kernel_rfl
@[go_sem] theorem bytesOf_30 : bytesOf Tryz.prog 30 = 16 := by kernel_rfl
@[go_sem] theorem zeroD_30 : zeroD Tryz.prog 30 = [.v .nilIface] := by kernel_rfl
@[go_sem] theorem okT_38 : okT Tryz.prog 38 = true := by kernel_rfl
@[go_sem] theorem szOf_38 : szOf Tryz.prog 38 = 1 := by kernel_rfl
@[go_sem] theorem aggT_38 : aggT Tryz.prog 38 = false := by kernel_rfl
@[go_sem] theorem undS_38 : (Tryz.prog.underlying 38).isSome = true := by kernel_rfl
@[go_sem] theorem infS_38 : (Tryz.prog.info? 38).isSome = true := by kernel_rfl
@[go_sem] theorem ifaceT_38 : ifaceT Tryz.prog 38 = false := by kernel_rfl
@[go_sem] theorem ptrT_38 : ptrT Tryz.prog 38 = false := by kernel_rfl
@[go_sem] theorem zeroT_38 : zeroT Tryz.prog 38 = true := by kernel_rfl
@[go_sem] theorem zeroOk_38 : zeroOk Tryz.prog 38 = true := by kernel_rfl
@[go_sem] theorem bytesOf_38 : bytesOf Tryz.prog 38 = 8 := by kernel_rfl
@[go_sem] theorem zeroD_38 : zeroD Tryz.prog 38 = [.v .nilFunc] := by kernel_rfl
@[go_sem] theorem okT_40 : okT Tryz.prog 40 = true := by kernel_rfl
@[go_sem] theorem szOf_40 : szOf Tryz.prog 40 = 1 := by kernel_rfl
@[go_sem] theorem aggT_40 : aggT Tryz.prog 40 = false := by kernel_rfl
@[go_sem] theorem undS_40 : (Tryz.prog.underlying 40).isSome = true := by kernel_rfl
@[go_sem] theorem infS_40 : (Tryz.prog.info? 40).isSome = true := by kernel_rfl
@[go_sem] theorem ifaceT_40 : ifaceT Tryz.prog 40 = false := by kernel_rfl
@[go_sem] theorem ptrT_40 : ptrT Tryz.prog 40 = false := by kernel_rfl
@[go_sem] theorem zeroT_40 : zeroT Tryz.prog 40 = true := by kernel_rfl
@[go_sem] theorem zeroOk_40 : zeroOk Tryz.prog 40 = true := by kernel_rfl
@[go_sem] theorem bytesOf_40 : bytesOf Tryz.prog 40 = 8 := by kernel_rfl
@[go_sem] theorem zeroD_40 : zeroD Tryz.prog 40 = [.v .nilFunc] := by kernel_rfl
@[go_sem] theorem okT_45 : okT Tryz.prog 45 = true := by kernel_rfl
@[go_sem] theorem szOf_45 : szOf Tryz.prog 45 = 32 := by kernel_rfl
@[go_sem] theorem aggT_45 : aggT Tryz.prog 45 = true := by kernel_rfl
@[go_sem] theorem undS_45 : (Tryz.prog.underlying 45).isSome = true := by kernel_rfl
@[go_sem] theorem infS_45 : (Tryz.prog.info? 45).isSome = true := by kernel_rfl
@[go_sem] theorem ifaceT_45 : ifaceT Tryz.prog 45 = false := by kernel_rfl
@[go_sem] theorem ptrT_45 : ptrT Tryz.prog 45 = false := by kernel_rfl
@[go_sem] theorem zeroT_45 : zeroT Tryz.prog 45 = true := by kernel_rfl
@[go_sem] theorem zeroOk_45 : zeroOk Tryz.prog 45 = true := by kernel_rfl
@[go_sem] theorem bytesOf_45 : bytesOf Tryz.prog 45 = 32 := by kernel_rfl
@[go_sem] theorem zeroD_45 : zeroD Tryz.prog 45 = [.v (.int .u8 0), .v (.int .u8 0), .v (.int .u8 0), .v (.int .u8 0), .v (.int .u8 0), .v (.int .u8 0), .v (.int .u8 0), .v (.int .u8 0), .v (.int .u8 0), .v (.int .u8 0), .v (.int .u8 0), .v (.int .u8 0), .v (.int .u8 0), .v (.int .u8 0), .v (.int .u8 0), .v (.int .u8 0), .v (.int .u8 0), .v (.int .u8 0), .v (.int .u8 0), .v (.int .u8 0), .v (.int .u8 0), .v (.int .u8 0), .v (.int .u8 0), .v (.int .u8 0), .v (.int .u8 0), .v (.int .u8 0), .v (.int .u8 0), .v (.int .u8 0), .v (.int .u8 0), .v (.int .u8 0), .v (.int .u8 0), .v (.int .u8 0)] := by kernel_rfl
@[go_sem] theorem arT_45 : arT Tryz.prog 45 = some (32, 5) := by kernel_rfl
@[go_sem] theorem okT_46 : okT Tryz.prog 46 = true := by kernel_rfl
@[go_sem] theorem szOf_46 : szOf Tryz.prog 46 = 1 := by kernel_rfl
@[go_sem] theorem aggT_46 : aggT Tryz.prog 46 = false := by kernel_rfl
@[go_sem] theorem undS_46 : (Tryz.prog.underlying 46).isSome = true := by kernel_rfl
@[go_sem] theorem infS_46 : (Tryz.prog.info? 46).isSome = true := by kernel_rfl
@[go_sem] theorem ifaceT_46 : ifaceT Tryz.prog 46 = false := by kernel_rfl
@[go_sem] theorem ptrT_46 : ptrT Tryz.prog 46 = false := by kernel_rfl
@[go_sem] theorem zeroT_46 : zeroT Tryz.prog 46 = true := by kernel_rfl
@[go_sem] theorem zeroOk_46 : zeroOk Tryz.prog 46 = true := by kernel_rfl
@[go_sem] theorem bytesOf_46 : bytesOf Tryz.prog 46 = 24 := by kernel_rfl
@[go_sem] theorem zeroD_46 : zeroD Tryz.prog 46 = [.sl .full []] := by kernel_rfl
@[go_sem] theorem elT_46 : elT Tryz.prog 46 = some 28 := by kernel_rfl
@[go_sem] theorem bul_46 (own : Own) (es : List D) (ty : TypeId) (cs : Array Bool) : dbuiltin Tryz.prog .len #[46] ty cs [.sl own es] = some (True, .v (.int .i64 es.length)) := bu_len own es _ ty cs elT_46
@[go_sem] theorem bwl_46 (k off n c : Nat) (ty : TypeId) (cs : Array Bool) : dbuiltin Tryz.prog .len #[46] ty cs [.win k off n c] = some (True, .v (.int .i64 n)) := bu_wlen k off n c _ ty cs elT_46
@[go_sem] theorem okT_48 : okT Tryz.prog 48 = true := by kernel_rfl
@[go_sem] theorem szOf_48 : szOf Tryz.prog 48 = 1 := by kernel_rfl
@[go_sem] theorem aggT_48 : aggT Tryz.prog 48 = false := by kernel_rfl
@[go_sem] theorem undS_48 : (Tryz.prog.underlying 48).isSome = true := by kernel_rfl
@[go_sem] theorem infS_48 : (Tryz.prog.info? 48).isSome = true := by kernel_rfl
@[go_sem] theorem ifaceT_48 : ifaceT Tryz.prog 48 = false := by kernel_rfl
@[go_sem] theorem ptrT_48 : ptrT Tryz.prog 48 = true := by kernel_rfl
@[go_sem] theorem zeroT_48 : zeroT Tryz.prog 48 = true := by kernel_rfl
@[go_sem] theorem zeroOk_48 : zeroOk Tryz.prog 48 = true := by kernel_rfl
@[go_sem] theorem bytesOf_48 : bytesOf Tryz.prog 48 = 8 := by kernel_rfl
@[go_sem] theorem zeroD_48 : zeroD Tryz.prog 48 = [.v (.pointer none)] := by kernel_rfl
@[go_sem] theorem okT_54 : okT Tryz.prog 54 = true := by kernel_rfl
@[go_sem] theorem szOf_54 : szOf Tryz.prog 54 = 1 := by kernel_rfl
@[go_sem] theorem aggT_54 : aggT Tryz.prog 54 = false := by kernel_rfl
@[go_sem] theorem undS_54 : (Tryz.prog.underlying 54).isSome = true := by kernel_rfl
@[go_sem] theorem infS_54 : (Tryz.prog.info? 54).isSome = true := by kernel_rfl
@[go_sem] theorem ifaceT_54 : ifaceT Tryz.prog 54 = false := by kernel_rfl
@[go_sem] theorem ptrT_54 : ptrT Tryz.prog 54 = false := by kernel_rfl
@[go_sem] theorem zeroT_54 : zeroT Tryz.prog 54 = true := by kernel_rfl
@[go_sem] theorem zeroOk_54 : zeroOk Tryz.prog 54 = true := by kernel_rfl
@[go_sem] theorem bytesOf_54 : bytesOf Tryz.prog 54 = 8 := by kernel_rfl
@[go_sem] theorem zeroD_54 : zeroD Tryz.prog 54 = [.v (.int .u64 0)] := by kernel_rfl
@[go_sem] theorem okT_56 : okT Tryz.prog 56 = true := by kernel_rfl
@[go_sem] theorem szOf_56 : szOf Tryz.prog 56 = 1 := by kernel_rfl
@[go_sem] theorem aggT_56 : aggT Tryz.prog 56 = false := by kernel_rfl
@[go_sem] theorem undS_56 : (Tryz.prog.underlying 56).isSome = true := by kernel_rfl
@[go_sem] theorem infS_56 : (Tryz.prog.info? 56).isSome = true := by kernel_rfl
@[go_sem] theorem ifaceT_56 : ifaceT Tryz.prog 56 = false := by kernel_rfl
@[go_sem] theorem ptrT_56 : ptrT Tryz.prog 56 = false := by kernel_rfl
@[go_sem] theorem zeroT_56 : zeroT Tryz.prog 56 = true := by kernel_rfl
@[go_sem] theorem zeroOk_56 : zeroOk Tryz.prog 56 = true := by kernel_rfl
@[go_sem] theorem bytesOf_56 : bytesOf Tryz.prog 56 = 8 := by kernel_rfl
@[go_sem] theorem zeroD_56 : zeroD Tryz.prog 56 = [.v (.int .i64 0)] := by kernel_rfl
@[go_sem] theorem okT_58 : okT Tryz.prog 58 = true := by kernel_rfl
@[go_sem] theorem szOf_58 : szOf Tryz.prog 58 = 1 := by kernel_rfl
@[go_sem] theorem aggT_58 : aggT Tryz.prog 58 = false := by kernel_rfl
@[go_sem] theorem undS_58 : (Tryz.prog.underlying 58).isSome = true := by kernel_rfl
@[go_sem] theorem infS_58 : (Tryz.prog.info? 58).isSome = true := by kernel_rfl
@[go_sem] theorem ifaceT_58 : ifaceT Tryz.prog 58 = false := by kernel_rfl
@[go_sem] theorem ptrT_58 : ptrT Tryz.prog 58 = true := by kernel_rfl
@[go_sem] theorem zeroT_58 : zeroT Tryz.prog 58 = true := by kernel_rfl
@[go_sem] theorem zeroOk_58 : zeroOk Tryz.prog 58 = true := by kernel_rfl
@[go_sem] theorem bytesOf_58 : bytesOf Tryz.prog 58 = 8 := by kernel_rfl
@[go_sem] theorem zeroD_58 : zeroD Tryz.prog 58 = [.v (.pointer none)] := by kernel_rfl
@[go_sem] theorem okT_60 : okT Tryz.prog 60 = true := by kernel_rfl
@[go_sem] theorem szOf_60 : szOf Tryz.prog 60 = 4 := by kernel_rfl
@[go_sem] theorem aggT_60 : aggT Tryz.prog 60 = true := by kernel_rfl
@[go_sem] theorem undS_60 : (Tryz.prog.underlying 60).isSome = true := by kernel_rfl
@[go_sem] theorem infS_60 : (Tryz.prog.info? 60).isSome = true := by kernel_rfl
@[go_sem] theorem ifaceT_60 : ifaceT Tryz.prog 60 = false := by kernel_rfl
@[go_sem] theorem ptrT_60 : ptrT Tryz.prog 60 = false := by kernel_rfl
@[go_sem] theorem zeroT_60 : zeroT Tryz.prog 60 = true := by kernel_rfl
@[go_sem] theorem zeroOk_60 : zeroOk Tryz.prog 60 = true := by kernel_rfl
@[go_sem] theorem bytesOf_60 : bytesOf Tryz.prog 60 = 48 := by kernel_rfl
@[go_sem] theorem zeroD_60 : zeroD Tryz.prog 60 = [.sl .full [], .v (.int .i64 0), .v (.int .i64 0), .v (.int .i64 0)] := by kernel_rfl
@[go_sem] theorem fld_60_0 : fld Tryz.prog 60 0 = some (0, 22) := by kernel_rfl
@[go_sem] theorem fld_60_1 : fld Tryz.prog 60 1 = some (1, 3) := by kernel_rfl
@[go_sem] theorem fld_60_2 : fld Tryz.prog 60 2 = some (2, 3) := by kernel_rfl
@[go_sem] theorem fld_60_3 : fld Tryz.prog 60 3 = some (3, 3) := by kernel_rfl
noncomputable def pl60 : Nat → Option (Nat × Nat) := (placeT Tryz.prog 60).getD fun _ => none
@[go_sem] theorem placeT_60 : placeT Tryz.prog 60 = some pl60 := by kernel_rfl
@[go_sem] theorem pl_60_0 : pl60 0 = some (0, 1) := by kernel_rfl
@[go_sem] theorem pl_60_1 : pl60 1 = some (1, 1) := by kernel_rfl
@[go_sem] theorem pl_60_2 : pl60 2 = some (2, 1) := by kernel_rfl
@[go_sem] theorem pl_60_3 : pl60 3 = some (3, 1) := by kernel_rfl
@[go_sem] theorem okT_72 : okT Tryz.prog 72 = true := by kernel_rfl
@[go_sem] theorem szOf_72 : szOf Tryz.prog 72 = 1 := by kernel_rfl
@[go_sem] theorem aggT_72 : aggT Tryz.prog 72 = true := by kernel_rfl
@[go_sem] theorem undS_72 : (Tryz.prog.underlying 72).isSome = true := by kernel_rfl
@[go_sem] theorem infS_72 : (Tryz.prog.info? 72).isSome = true := by kernel_rfl
@[go_sem] theorem ifaceT_72 : ifaceT Tryz.prog 72 = false := by kernel_rfl
@[go_sem] theorem ptrT_72 : ptrT Tryz.prog 72 = false := by kernel_rfl
@[go_sem] theorem zeroT_72 : zeroT Tryz.prog 72 = true := by kernel_rfl
@[go_sem] theorem zeroOk_72 : zeroOk Tryz.prog 72 = true := by kernel_rfl
@[go_sem] theorem bytesOf_72 : bytesOf Tryz.prog 72 = 24 := by kernel_rfl
@[go_sem] theorem zeroD_72 : zeroD Tryz.prog 72 = [.sl .full []] := by kernel_rfl
@[go_sem] theorem fld_72_0 : fld Tryz.prog 72 0 = some (0, 22) := by kernel_rfl
@[go_sem] theorem okT_84 : okT Tryz.prog 84 = true := by kernel_rfl
@[go_sem] theorem szOf_84 : szOf Tryz.prog 84 = 1 := by kernel_rfl
@[go_sem] theorem aggT_84 : aggT Tryz.prog 84 = false := by kernel_rfl
@[go_sem] theorem undS_84 : (Tryz.prog.underlying 84).isSome = true := by kernel_rfl
@[go_sem] theorem infS_84 : (Tryz.prog.info? 84).isSome = true := by kernel_rfl
@[go_sem] theorem ifaceT_84 : ifaceT Tryz.prog 84 = false := by kernel_rfl
@[go_sem] theorem ptrT_84 : ptrT Tryz.prog 84 = true := by kernel_rfl
@[go_sem] theorem zeroT_84 : zeroT Tryz.prog 84 = true := by kernel_rfl
@[go_sem] theorem zeroOk_84 : zeroOk Tryz.prog 84 = true := by kernel_rfl
@[go_sem] theorem bytesOf_84 : bytesOf Tryz.prog 84 = 8 := by kernel_rfl
@[go_sem] theorem zeroD_84 : zeroD Tryz.prog 84 = [.v (.pointer none)] := by kernel_rfl
@[go_sem] theorem okT_91 : okT Tryz.prog 91 = true := by kernel_rfl
@[go_sem] theorem szOf_91 : szOf Tryz.prog 91 = 3 := by kernel_rfl
@[go_sem] theorem aggT_91 : aggT Tryz.prog 91 = true := by kernel_rfl
@[go_sem] theorem undS_91 : (Tryz.prog.underlying 91).isSome = true := by kernel_rfl
@[go_sem] theorem infS_91 : (Tryz.prog.info? 91).isSome = true := by kernel_rfl
@[go_sem] theorem ifaceT_91 : ifaceT Tryz.prog 91 = false := by kernel_rfl
@[go_sem] theorem ptrT_91 : ptrT Tryz.prog 91 = false := by kernel_rfl
@[go_sem] theorem zeroT_91 : zeroT Tryz.prog 91 = true := by kernel_rfl
@[go_sem] theorem zeroOk_91 : zeroOk Tryz.prog 91 = true := by kernel_rfl
@[go_sem] theorem bytesOf_91 : bytesOf Tryz.prog 91 = 48 := by kernel_rfl
@[go_sem] theorem zeroD_91 : zeroD Tryz.prog 91 = [.sl .full [], .v (.int .i64 0), .v .nilIface] := by kernel_rfl
@[go_sem] theorem fld_91_0 : fld Tryz.prog 91 0 = some (0, 22) := by kernel_rfl
@[go_sem] theorem fld_91_1 : fld Tryz.prog 91 1 = some (1, 3) := by kernel_rfl
@[go_sem] theorem fld_91_2 : fld Tryz.prog 91 2 = some (2, 30) := by kernel_rfl
noncomputable def pl91 : Nat → Option (Nat × Nat) := (placeT Tryz.prog 91).getD fun _ => none
@[go_sem] theorem placeT_91 : placeT Tryz.prog 91 = some pl91 := by kernel_rfl
@[go_sem] theorem pl_91_0 : pl91 0 = some (0, 1) := by kernel_rfl
@[go_sem] theorem pl_91_1 : pl91 1 = some (1, 1) := by kernel_rfl
@[go_sem] theorem pl_91_2 : pl91 2 = some (2, 1) := by kernel_rfl
@[go_sem] theorem okT_93 : okT Tryz.prog 93 = true := by kernel_rfl
@[go_sem] theorem szOf_93 : szOf Tryz.prog 93 = 1 := by kernel_rfl
@[go_sem] theorem aggT_93 : aggT Tryz.prog 93 = false := by kernel_rfl
@[go_sem] theorem undS_93 : (Tryz.prog.underlying 93).isSome = true := by kernel_rfl
@[go_sem] theorem infS_93 : (Tryz.prog.info? 93).isSome = true := by kernel_rfl
@[go_sem] theorem ifaceT_93 : ifaceT Tryz.prog 93 = false := by kernel_rfl
@[go_sem] theorem ptrT_93 : ptrT Tryz.prog 93 = false := by kernel_rfl
@[go_sem] theorem zeroT_93 : zeroT Tryz.prog 93 = true := by kernel_rfl
@[go_sem] theorem zeroOk_93 : zeroOk Tryz.prog 93 = true := by kernel_rfl
@[go_sem] theorem bytesOf_93 : bytesOf Tryz.prog 93 = 8 := by kernel_rfl
@[go_sem] theorem zeroD_93 : zeroD Tryz.prog 93 = [.v .nilFunc] := by kernel_rfl
@[go_sem] theorem okT_101 : okT Tryz.prog 101 = true := by kernel_rfl
@[go_sem] theorem szOf_101 : szOf Tryz.prog 101 = 1 := by kernel_rfl
@[go_sem] theorem aggT_101 : aggT Tryz.prog 101 = false := by kernel_rfl
@[go_sem] theorem undS_101 : (Tryz.prog.underlying 101).isSome = true := by kernel_rfl
@[go_sem] theorem infS_101 : (Tryz.prog.info? 101).isSome = true := by kernel_rfl
@[go_sem] theorem ifaceT_101 : ifaceT Tryz.prog 101 = false := by kernel_rfl
@[go_sem] theorem ptrT_101 : ptrT Tryz.prog 101 = true := by kernel_rfl
@[go_sem] theorem zeroT_101 : zeroT Tryz.prog 101 = true := by kernel_rfl
@[go_sem] theorem zeroOk_101 : zeroOk Tryz.prog 101 = true := by kernel_rfl
@[go_sem] theorem bytesOf_101 : bytesOf Tryz.prog 101 = 8 := by kernel_rfl
@[go_sem] theorem zeroD_101 : zeroD Tryz.prog 101 = [.v (.pointer none)] := by kernel_rfl
@[go_sem] theorem okT_104 : okT Tryz.prog 104 = true := by kernel_rfl
@[go_sem] theorem szOf_104 : szOf Tryz.prog 104 = 2 := by kernel_rfl
@[go_sem] theorem aggT_104 : aggT Tryz.prog 104 = true := by kernel_rfl
@[go_sem] theorem undS_104 : (Tryz.prog.underlying 104).isSome = true := by kernel_rfl
@[go_sem] theorem infS_104 : (Tryz.prog.info? 104).isSome = true := by kernel_rfl
@[go_sem] theorem ifaceT_104 : ifaceT Tryz.prog 104 = false := by kernel_rfl
@[go_sem] theorem ptrT_104 : ptrT Tryz.prog 104 = false := by kernel_rfl
@[go_sem] theorem zeroT_104 : zeroT Tryz.prog 104 = true := by kernel_rfl
@[go_sem] theorem zeroOk_104 : zeroOk Tryz.prog 104 = true := by kernel_rfl
@[go_sem] theorem bytesOf_104 : bytesOf Tryz.prog 104 = 24 := by kernel_rfl
@[go_sem] theorem zeroD_104 : zeroD Tryz.prog 104 = [.v (.int .i64 0), .v .nilIface] := by kernel_rfl
@[go_sem] theorem fld_104_0 : fld Tryz.prog 104 0 = some (0, 3) := by kernel_rfl
@[go_sem] theorem fld_104_1 : fld Tryz.prog 104 1 = some (1, 30) := by kernel_rfl
noncomputable def pl104 : Nat → Option (Nat × Nat) := (placeT Tryz.prog 104).getD fun _ => none
@[go_sem] theorem placeT_104 : placeT Tryz.prog 104 = some pl104 := by kernel_rfl
@[go_sem] theorem pl_104_0 : pl104 0 = some (0, 1) := by kernel_rfl
@[go_sem] theorem pl_104_1 : pl104 1 = some (1, 1) := by kernel_rfl
@[go_sem] theorem okT_106 : okT Tryz.prog 106 = true := by kernel_rfl
@[go_sem] theorem szOf_106 : szOf Tryz.prog 106 = 1 := by kernel_rfl
@[go_sem] theorem aggT_106 : aggT Tryz.prog 106 = false := by kernel_rfl
@[go_sem] theorem undS_106 : (Tryz.prog.underlying 106).isSome = true := by kernel_rfl
@[go_sem] theorem infS_106 : (Tryz.prog.info? 106).isSome = true := by kernel_rfl
@[go_sem] theorem ifaceT_106 : ifaceT Tryz.prog 106 = false := by kernel_rfl
@[go_sem] theorem ptrT_106 : ptrT Tryz.prog 106 = true := by kernel_rfl
@[go_sem] theorem zeroT_106 : zeroT Tryz.prog 106 = true := by kernel_rfl
@[go_sem] theorem zeroOk_106 : zeroOk Tryz.prog 106 = true := by kernel_rfl
@[go_sem] theorem bytesOf_106 : bytesOf Tryz.prog 106 = 8 := by kernel_rfl
@[go_sem] theorem zeroD_106 : zeroD Tryz.prog 106 = [.v (.pointer none)] := by kernel_rfl
@[go_sem] theorem okT_107 : okT Tryz.prog 107 = true := by kernel_rfl
@[go_sem] theorem szOf_107 : szOf Tryz.prog 107 = 1 := by kernel_rfl
@[go_sem] theorem aggT_107 : aggT Tryz.prog 107 = false := by kernel_rfl
@[go_sem] theorem undS_107 : (Tryz.prog.underlying 107).isSome = true := by kernel_rfl
@[go_sem] theorem infS_107 : (Tryz.prog.info? 107).isSome = true := by kernel_rfl
@[go_sem] theorem ifaceT_107 : ifaceT Tryz.prog 107 = false := by kernel_rfl
@[go_sem] theorem ptrT_107 : ptrT Tryz.prog 107 = false := by kernel_rfl
@[go_sem] theorem zeroT_107 : zeroT Tryz.prog 107 = true := by kernel_rfl
@[go_sem] theorem zeroOk_107 : zeroOk Tryz.prog 107 = true := by kernel_rfl
@[go_sem] theorem bytesOf_107 : bytesOf Tryz.prog 107 = 8 := by kernel_rfl
@[go_sem] theorem zeroD_107 : zeroD Tryz.prog 107 = [.v (.int .u64 0)] := by kernel_rfl
@[go_sem] theorem okT_109 : okT Tryz.prog 109 = true := by kernel_rfl
@[go_sem] theorem szOf_109 : szOf Tryz.prog 109 = 1 := by kernel_rfl
@[go_sem] theorem aggT_109 : aggT Tryz.prog 109 = false := by kernel_rfl
@[go_sem] theorem undS_109 : (Tryz.prog.underlying 109).isSome = true := by kernel_rfl
@[go_sem] theorem infS_109 : (Tryz.prog.info? 109).isSome = true := by kernel_rfl
@[go_sem] theorem ifaceT_109 : ifaceT Tryz.prog 109 = false := by kernel_rfl
@[go_sem] theorem ptrT_109 : ptrT Tryz.prog 109 = false := by kernel_rfl
@[go_sem] theorem zeroT_109 : zeroT Tryz.prog 109 = true := by kernel_rfl
@[go_sem] theorem zeroOk_109 : zeroOk Tryz.prog 109 = true := by kernel_rfl
@[go_sem] theorem bytesOf_109 : bytesOf Tryz.prog 109 = 8 := by kernel_rfl
@[go_sem] theorem zeroD_109 : zeroD Tryz.prog 109 = [.v (.pointer none)] := by kernel_rfl
@[go_sem] theorem okT_110 : okT Tryz.prog 110 = true := by kernel_rfl
@[go_sem] theorem szOf_110 : szOf Tryz.prog 110 = 1 := by kernel_rfl
@[go_sem] theorem aggT_110 : aggT Tryz.prog 110 = false := by kernel_rfl
@[go_sem] theorem undS_110 : (Tryz.prog.underlying 110).isSome = true := by kernel_rfl
@[go_sem] theorem infS_110 : (Tryz.prog.info? 110).isSome = true := by kernel_rfl
@[go_sem] theorem ifaceT_110 : ifaceT Tryz.prog 110 = false := by kernel_rfl
@[go_sem] theorem ptrT_110 : ptrT Tryz.prog 110 = false := by kernel_rfl
@[go_sem] theorem zeroT_110 : zeroT Tryz.prog 110 = true := by kernel_rfl
@[go_sem] theorem zeroOk_110 : zeroOk Tryz.prog 110 = true := by kernel_rfl
@[go_sem] theorem bytesOf_110 : bytesOf Tryz.prog 110 = 8 := by kernel_rfl
@[go_sem] theorem zeroD_110 : zeroD Tryz.prog 110 = [.v (.int .u64 0)] := by kernel_rfl
@[go_sem] theorem okT_112 : okT Tryz.prog 112 = true := by kernel_rfl
@[go_sem] theorem szOf_112 : szOf Tryz.prog 112 = 3 := by kernel_rfl
@[go_sem] theorem aggT_112 : aggT Tryz.prog 112 = true := by kernel_rfl
@[go_sem] theorem undS_112 : (Tryz.prog.underlying 112).isSome = true := by kernel_rfl
@[go_sem] theorem infS_112 : (Tryz.prog.info? 112).isSome = true := by kernel_rfl
@[go_sem] theorem ifaceT_112 : ifaceT Tryz.prog 112 = false := by kernel_rfl
@[go_sem] theorem ptrT_112 : ptrT Tryz.prog 112 = false := by kernel_rfl
@[go_sem] theorem zeroT_112 : zeroT Tryz.prog 112 = true := by kernel_rfl
@[go_sem] theorem zeroOk_112 : zeroOk Tryz.prog 112 = true := by kernel_rfl
@[go_sem] theorem bytesOf_112 : bytesOf Tryz.prog 112 = 24 := by kernel_rfl
@[go_sem] theorem zeroD_112 : zeroD Tryz.prog 112 = [.v (.pointer none), .v (.pointer none), .v (.int .u64 0)] := by kernel_rfl
@[go_sem] theorem fld_112_0 : fld Tryz.prog 112 0 = some (0, 17) := by kernel_rfl
@[go_sem] theorem fld_112_1 : fld Tryz.prog 112 1 = some (1, 109) := by kernel_rfl
@[go_sem] theorem fld_112_2 : fld Tryz.prog 112 2 = some (2, 110) := by kernel_rfl
@[go_sem] theorem okT_115 : okT Tryz.prog 115 = true := by kernel_rfl
@[go_sem] theorem szOf_115 : szOf Tryz.prog 115 = 1 := by kernel_rfl
@[go_sem] theorem aggT_115 : aggT Tryz.prog 115 = false := by kernel_rfl
@[go_sem] theorem undS_115 : (Tryz.prog.underlying 115).isSome = true := by kernel_rfl
@[go_sem] theorem infS_115 : (Tryz.prog.info? 115).isSome = true := by kernel_rfl
@[go_sem] theorem ifaceT_115 : ifaceT Tryz.prog 115 = true := by kernel_rfl
@[go_sem] theorem ptrT_115 : ptrT Tryz.prog 115 = false := by kernel_rfl
@[go_sem] theorem zeroT_115 : zeroT Tryz.prog 115 = true := by kernel_rfl
@[go_sem] theorem zeroOk_115 : zeroOk Tryz.prog 115 = true := by kernel_rfl
@[go_sem] theorem bytesOf_115 : bytesOf Tryz.prog 115 = 16 := by kernel_rfl
@[go_sem] theorem zeroD_115 : zeroD Tryz.prog 115 = [.v .nilIface] := by kernel_rfl
@[go_sem] theorem okT_117 : okT Tryz.prog 117 = true := by kernel_rfl
@[go_sem] theorem szOf_117 : szOf Tryz.prog 117 = 1 := by kernel_rfl
@[go_sem] theorem aggT_117 : aggT Tryz.prog 117 = false := by kernel_rfl
@[go_sem] theorem undS_117 : (Tryz.prog.underlying 117).isSome = true := by kernel_rfl
@[go_sem] theorem infS_117 : (Tryz.prog.info? 117).isSome = true := by kernel_rfl
@[go_sem] theorem ifaceT_117 : ifaceT Tryz.prog 117 = false := by kernel_rfl
@[go_sem] theorem ptrT_117 : ptrT Tryz.prog 117 = false := by kernel_rfl
@[go_sem] theorem zeroT_117 : zeroT Tryz.prog 117 = true := by kernel_rfl
@[go_sem] theorem zeroOk_117 : zeroOk Tryz.prog 117 = true := by kernel_rfl
@[go_sem] theorem bytesOf_117 : bytesOf Tryz.prog 117 = 1 := by kernel_rfl
@[go_sem] theorem zeroD_117 : zeroD Tryz.prog 117 = [.v (.int .u8 0)] := by kernel_rfl
@[go_sem] theorem okT_123 : okT Tryz.prog 123 = true := by kernel_rfl
@[go_sem] theorem szOf_123 : szOf Tryz.prog 123 = 1 := by kernel_rfl
@[go_sem] theorem aggT_123 : aggT Tryz.prog 123 = false := by kernel_rfl
@[go_sem] theorem undS_123 : (Tryz.prog.underlying 123).isSome = true := by kernel_rfl
@[go_sem] theorem infS_123 : (Tryz.prog.info? 123).isSome = true := by kernel_rfl
@[go_sem] theorem ifaceT_123 : ifaceT Tryz.prog 123 = false := by kernel_rfl
@[go_sem] theorem ptrT_123 : ptrT Tryz.prog 123 = false := by kernel_rfl
@[go_sem] theorem zeroT_123 : zeroT Tryz.prog 123 = true := by kernel_rfl
@[go_sem] theorem zeroOk_123 : zeroOk Tryz.prog 123 = true := by kernel_rfl
@[go_sem] theorem bytesOf_123 : bytesOf Tryz.prog 123 = 8 := by kernel_rfl
@[go_sem] theorem zeroD_123 : zeroD Tryz.prog 123 = [.v .nilFunc] := by kernel_rfl
@[go_sem] theorem okT_125 : okT Tryz.prog 125 = true := by kernel_rfl
@[go_sem] theorem szOf_125 : szOf Tryz.prog 125 = 1 := by kernel_rfl
@[go_sem] theorem aggT_125 : aggT Tryz.prog 125 = false := by kernel_rfl
@[go_sem] theorem undS_125 : (Tryz.prog.underlying 125).isSome = true := by kernel_rfl
@[go_sem] theorem infS_125 : (Tryz.prog.info? 125).isSome = true := by kernel_rfl
@[go_sem] theorem ifaceT_125 : ifaceT Tryz.prog 125 = false := by kernel_rfl
@[go_sem] theorem ptrT_125 : ptrT Tryz.prog 125 = false := by kernel_rfl
@[go_sem] theorem zeroT_125 : zeroT Tryz.prog 125 = true := by kernel_rfl
@[go_sem] theorem zeroOk_125 : zeroOk Tryz.prog 125 = true := by kernel_rfl
@[go_sem] theorem bytesOf_125 : bytesOf Tryz.prog 125 = 24 := by kernel_rfl
@[go_sem] theorem zeroD_125 : zeroD Tryz.prog 125 = [.sl .full []] := by kernel_rfl
@[go_sem] theorem elT_125 : elT Tryz.prog 125 = some 30 := by kernel_rfl
@[go_sem] theorem bul_125 (own : Own) (es : List D) (ty : TypeId) (cs : Array Bool) : dbuiltin Tryz.prog .len #[125] ty cs [.sl own es] = some (True, .v (.int .i64 es.length)) := bu_len own es _ ty cs elT_125
@[go_sem] theorem bwl_125 (k off n c : Nat) (ty : TypeId) (cs : Array Bool) : dbuiltin Tryz.prog .len #[125] ty cs [.win k off n c] = some (True, .v (.int .i64 n)) := bu_wlen k off n c _ ty cs elT_125
@[go_sem] theorem okT_126 : okT Tryz.prog 126 = true := by kernel_rfl
@[go_sem] theorem szOf_126 : szOf Tryz.prog 126 = 1 := by kernel_rfl
@[go_sem] theorem aggT_126 : aggT Tryz.prog 126 = false := by kernel_rfl
@[go_sem] theorem undS_126 : (Tryz.prog.underlying 126).isSome = true := by kernel_rfl
@[go_sem] theorem infS_126 : (Tryz.prog.info? 126).isSome = true := by kernel_rfl
@[go_sem] theorem ifaceT_126 : ifaceT Tryz.prog 126 = false := by kernel_rfl
@[go_sem] theorem ptrT_126 : ptrT Tryz.prog 126 = true := by kernel_rfl
@[go_sem] theorem zeroT_126 : zeroT Tryz.prog 126 = true := by kernel_rfl
@[go_sem] theorem zeroOk_126 : zeroOk Tryz.prog 126 = true := by kernel_rfl
@[go_sem] theorem bytesOf_126 : bytesOf Tryz.prog 126 = 8 := by kernel_rfl
@[go_sem] theorem zeroD_126 : zeroD Tryz.prog 126 = [.v (.pointer none)] := by kernel_rfl
@[go_sem] theorem okT_144 : okT Tryz.prog 144 = true := by kernel_rfl
@[go_sem] theorem szOf_144 : szOf Tryz.prog 144 = 1 := by kernel_rfl
@[go_sem] theorem aggT_144 : aggT Tryz.prog 144 = false := by kernel_rfl
@[go_sem] theorem undS_144 : (Tryz.prog.underlying 144).isSome = true := by kernel_rfl
@[go_sem] theorem infS_144 : (Tryz.prog.info? 144).isSome = true := by kernel_rfl
@[go_sem] theorem ifaceT_144 : ifaceT Tryz.prog 144 = false := by kernel_rfl
@[go_sem] theorem ptrT_144 : ptrT Tryz.prog 144 = false := by kernel_rfl
@[go_sem] theorem zeroT_144 : zeroT Tryz.prog 144 = true := by kernel_rfl
@[go_sem] theorem zeroOk_144 : zeroOk Tryz.prog 144 = true := by kernel_rfl
@[go_sem] theorem bytesOf_144 : bytesOf Tryz.prog 144 = 8 := by kernel_rfl
@[go_sem] theorem zeroD_144 : zeroD Tryz.prog 144 = [.v (.int .i64 0)] := by kernel_rfl
@[go_sem] theorem okT_152 : okT Tryz.prog 152 = true := by kernel_rfl
@[go_sem] theorem szOf_152 : szOf Tryz.prog 152 = 1 := by kernel_rfl
@[go_sem] theorem aggT_152 : aggT Tryz.prog 152 = false := by kernel_rfl
@[go_sem] theorem undS_152 : (Tryz.prog.underlying 152).isSome = true := by kernel_rfl
@[go_sem] theorem infS_152 : (Tryz.prog.info? 152).isSome = true := by kernel_rfl
@[go_sem] theorem ifaceT_152 : ifaceT Tryz.prog 152 = false := by kernel_rfl
@[go_sem] theorem ptrT_152 : ptrT Tryz.prog 152 = false := by kernel_rfl
@[go_sem] theorem zeroT_152 : zeroT Tryz.prog 152 = true := by kernel_rfl
@[go_sem] theorem zeroOk_152 : zeroOk Tryz.prog 152 = true := by kernel_rfl
@[go_sem] theorem bytesOf_152 : bytesOf Tryz.prog 152 = 4 := by kernel_rfl
@[go_sem] theorem zeroD_152 : zeroD Tryz.prog 152 = [.v (.int .u32 0)] := by kernel_rfl
@[go_sem] theorem okT_155 : okT Tryz.prog 155 = true := by kernel_rfl
@[go_sem] theorem szOf_155 : szOf Tryz.prog 155 = 1 := by kernel_rfl
@[go_sem] theorem aggT_155 : aggT Tryz.prog 155 = false := by kernel_rfl
@[go_sem] theorem undS_155 : (Tryz.prog.underlying 155).isSome = true := by kernel_rfl
@[go_sem] theorem infS_155 : (Tryz.prog.info? 155).isSome = true := by kernel_rfl
@[go_sem] theorem ifaceT_155 : ifaceT Tryz.prog 155 = false := by kernel_rfl
@[go_sem] theorem ptrT_155 : ptrT Tryz.prog 155 = false := by kernel_rfl
@[go_sem] theorem zeroT_155 : zeroT Tryz.prog 155 = true := by kernel_rfl
@[go_sem] theorem zeroOk_155 : zeroOk Tryz.prog 155 = true := by kernel_rfl
@[go_sem] theorem bytesOf_155 : bytesOf Tryz.prog 155 = 8 := by kernel_rfl
@[go_sem] theorem zeroD_155 : zeroD Tryz.prog 155 = [.v (.int .u64 0)] := by kernel_rfl
@[go_sem] theorem okT_159 : okT Tryz.prog 159 = true := by kernel_rfl
@[go_sem] theorem szOf_159 : szOf Tryz.prog 159 = 1 := by kernel_rfl
@[go_sem] theorem aggT_159 : aggT Tryz.prog 159 = false := by kernel_rfl
@[go_sem] theorem undS_159 : (Tryz.prog.underlying 159).isSome = true := by kernel_rfl
@[go_sem] theorem infS_159 : (Tryz.prog.info? 159).isSome = true := by kernel_rfl
@[go_sem] theorem ifaceT_159 : ifaceT Tryz.prog 159 = false := by kernel_rfl
@[go_sem] theorem ptrT_159 : ptrT Tryz.prog 159 = true := by kernel_rfl
@[go_sem] theorem zeroT_159 : zeroT Tryz.prog 159 = true := by kernel_rfl
@[go_sem] theorem zeroOk_159 : zeroOk Tryz.prog 159 = true := by kernel_rfl
@[go_sem] theorem bytesOf_159 : bytesOf Tryz.prog 159 = 8 := by kernel_rfl
@[go_sem] theorem zeroD_159 : zeroD Tryz.prog 159 = [.v (.pointer none)] := by kernel_rfl
theorem mixed : Tryz.prog.follows .mixedOrders = true := by kernel_rfl
end Go.Proofs.YtonncfminojejaaGreatDoor

namespace Go.Proofs.YtonncfminojejaaGreatDoor
open Go.RowKit

def u64D (n : Nat) : D := .v (.int .u64 (n : Int))
/-! What fits the machine's bounds. -/
section
variable {P : Program} {w : World} {η : Names} {X : Nat → Nat → Prop}
theorem rep_structs {F : Nat → Prop} {α : Type} (e : α → D) (z : Nat) (hz : 0 < z) (hX : ∀ b i, F b → X b i) {A : Option Addr} {c b o : Nat} {l : List α} {C : Nat → List Value} (hA : 0 < l.length → A = some ⟨b, o, none⟩ ∧ F b)
    (hC : ∀ i a, l[i]? = some a → (C i).length = z ∧ w.rangeAt b (o + i * z) (C i)) (hR : ∀ i a, l[i]? = some a → Rep P w η X (e a) (.agg (C i).toArray)) (hagg : ∀ a, (e a).isAgg = true) (hc : l.length ≤ c) (hn : l.length ≤ 140737488351232) :
    Rep P w η X (.sl .no (l.map e)) (.slice A l.length c) := by
  simp only [Rep]
  refine ⟨A, c, by rw [List.length_map], by rw [List.length_map]; exact hc, by rw [List.length_map]; omega, trivial, fun h0 => ?_⟩
  rw [List.length_map] at h0
  refine ⟨b, o, z, (hA h0).1, hz, RepE.mk fun i d hd => ?_⟩
  rw [List.getElem?_map] at hd
  cases hi : l[i]? with
  | none => rw [hi] at hd; cases hd
  | some a =>
    rw [hi] at hd
    injection hd with hd
    subst hd
    have h1 := hR i a hi
    obtain ⟨h2, h3⟩ := hC i a hi
    cases he : e a with
    | agg ds =>
      rw [he] at h1
      simp only [Rep] at h1
      obtain ⟨vs, h4, h5, h6⟩ := h1
      have : C i = vs := by
        injection h4 with h4
        have := congrArg Array.toList h4
        simpa using this
      rw [this] at h2 h3
      have hlen : ds.length = z := by rw [← h5.length, h2]
      exact ⟨by simp only [RepA]; exact ⟨hlen, RepC.mk h5 h3 (fun j _ => hX _ _ (hA h0).2) h6⟩, fun h => by simp [D.isAgg] at h⟩
    | _ => have := hagg a; rw [he] at this; simp [D.isAgg] at this
end
/-! ### Over memory, and over trees -/
section
variable {P : Program} {base : Nat} {S : St} {η : Names} {w : World}
def St.nil : St := ⟨0, fun _ => none⟩
theorem mem_nil (w : World) (hg : GlobOk w.heap.size w) : Mem P w.heap.size St.nil (fun _ => none) w := ⟨Nat.le_refl _, fun _ _ => rfl, fun _ _ => rfl, (fun _ _ _ h => by cases h), (fun _ _ _ h => by cases h), (fun _ _ h => by cases h), (fun _ _ _ _ h => by cases h), (fun _ _ _ _ h => by cases h), hg⟩
end
theorem empty_toList : (⟨#[]⟩ : ByteArray).toList = [] := by rw [Go.Lib.toList_data]
attribute [go_sem] empty_toList u64D
end Go.Proofs.YtonncfminojejaaGreatDoor

namespace Go.Proofs.YtonncfminojejaaGreatDoor
open Go.ChangeShapes Go.WideShapes Go.ChangeAt Go.RowKit Go.Deep Go.Joins
section
variable {H : Type} {enc : TypeId × Value → H} {w : World}
theorem open_structs_trod {P : Program} {α : Type} (e : α → D) {t el : TypeId} {size bytes : Nat} (ht : P.underlying t = some (.slice el)) (hc : P.cellsOf el = size) (hs0 : 0 < size) (hby : P.bytesOf el = bytes) (hb0 : 0 < bytes) (Q : α → List Value → Prop)
    (elem : ∀ (fuel : Nat) (cs : List Value) (x : DataW H × List MemPlace), DataW.trod enc P w 0 (fun _ => true) true fuel el cs = some x → Sized P el x.1 → cs.length = size → ∃ d, Q d cs)
    (hw : ∀ a, (e a).width = size) (hag : ∀ a, (e a).isAgg = true) (hrep : ∀ d cs, Q d cs → ∀ (η : Names) (X : Nat → Nat → Prop), (∀ b i, X b i) → Rep P w η X (e d) (.agg cs.toArray))
    {fuel : Nat} {cs : List Value} {x : DataW H × List MemPlace} (h : DataW.trod enc P w 0 (fun _ => true) true fuel t cs = some x) (hs : Sized P t x.1) :
    ∃ l : List α, (∀ a ∈ l, ∃ cs, Q a cs) ∧ l.length ≤ 140737488351232 ∧ ∃ u, cs = [u] ∧ ∀ (η : Names) (X : Nat → Nat → Prop), (∀ b i, X b i) → Rep P w η X (.sl .no (l.map e)) u := by
  obtain ⟨A, c, l, hcs, hlc, hr, hb⟩ := open_rows_trod (α := α × List Value) ht hc hs0 hby hb0 (fun b o d => d.2.length = size ∧ Q d.1 d.2 ∧ w.rangeAt b o d.2) (fun fuel cs x b o _ hx hsx hlen hcell => by
    obtain ⟨d, hd⟩ := elem fuel cs x hx hsx hlen
    exact ⟨(d, cs), hlen, hd, hcell⟩) h hs
  have hbb : l.length ≤ 140737488351232 := by
    have : c * 1 ≤ c * bytes := Nat.mul_le_mul_left _ hb0
    omega
  refine ⟨l.map (·.1), fun a ha => ?_, by rw [List.length_map]; exact hbb, _, hcs, fun η X hX => ?_⟩
  · obtain ⟨d, hd, rfl⟩ := List.mem_map.1 ha
    obtain ⟨i, hi, rfl⟩ := List.getElem_of_mem hd
    obtain ⟨b, o, _, _, hf⟩ := hr (by omega)
    exact ⟨_, (hf i _ (List.getElem?_eq_getElem hi)).2.1⟩
  · rcases Nat.eq_zero_or_pos l.length with h0 | h0
    · obtain rfl : l = [] := List.eq_nil_of_length_eq_zero h0
      simp only [Rep, List.map_nil, List.length_nil]
      exact ⟨A, c, rfl, Nat.zero_le _, by omega, trivial, fun h => absurd h (by omega)⟩
    · obtain ⟨b, o, rfl, hbl, hf⟩ := hr h0
      have hget : ∀ (i : Nat) (a : α), (l.map (·.1))[i]? = some a → ∃ C, l[i]? = some (a, C) ∧ ((l[i]?.map (·.2)).getD []) = C := by
        intro i a ha
        rw [List.getElem?_map] at ha
        cases hi : l[i]? with
        | none => rw [hi] at ha; cases ha
        | some d =>
          rw [hi] at ha
          obtain ⟨d1, d2⟩ := d
          simp at ha
          exact ⟨d2, by rw [ha], rfl⟩
      have hlen : l.length = (l.map (·.1)).length := by simp
      rw [hlen] at hlc hbb ⊢
      refine rep_structs (F := (· < w.heap.size)) e size hs0 (fun b i _ => hX b i) (b := b) (o := o) (C := fun i => (l[i]?.map (·.2)).getD []) (fun _ => ⟨rfl, hbl⟩) (fun i a ha => ?_) (fun i a ha => ?_) hag hlc hbb
      · obtain ⟨C, h1, h2⟩ := hget i a ha
        simp only [h2]
        have := hf i _ h1
        exact ⟨this.1, this.2.2⟩
      · obtain ⟨C, h1, h2⟩ := hget i a ha
        simp only [h2]
        exact hrep a C (hf i _ h1).2.1 η X hX
theorem open_cells_trod {P : Program} {α : Type} (g : α → Value) (hg : ∀ a, (g a).oneCell' = true) {t el : TypeId} {bytes : Nat} (ht : P.underlying t = some (.slice el)) (hc : P.cellsOf el = 1) (hby : P.bytesOf el = bytes) (hb0 : 0 < bytes) (Q : α → Prop)
    (elem : ∀ (fuel : Nat) (u : Value) (x : DataW H × List MemPlace), DataW.trod enc P w 0 (fun _ => true) true fuel el [u] = some x → Sized P el x.1 → ∃ d, Q d ∧ u = g d)
    {fuel : Nat} {cs : List Value} {x : DataW H × List MemPlace} (h : DataW.trod enc P w 0 (fun _ => true) true fuel t cs = some x) (hs : Sized P t x.1) :
    ∃ l : List α, (∀ a ∈ l, Q a) ∧ l.length ≤ 140737488351232 ∧ ∃ u, cs = [u] ∧ ∀ (η : Names) (X : Nat → Nat → Prop), (∀ b i, X b i) → Rep P w η X (.sl .no (l.map fun a => .v (g a))) u := by
  obtain ⟨A, c, l, hcs, hlc, hr, hb⟩ := open_rows_trod (α := α) ht hc (by omega) hby hb0 (fun b o a => Q a ∧ w.cell? ⟨b, o, none⟩ = some (g a)) (fun fuel cs x b o _ hx hsx hlen hcell => by
    match cs, hlen with
    | [u], _ =>
      obtain ⟨d, hd, rfl⟩ := elem fuel u x hx hsx
      exact ⟨d, hd, hcell 0 _ rfl⟩) h hs
  have hbb : l.length ≤ 140737488351232 := by
    have : c * 1 ≤ c * bytes := Nat.mul_le_mul_left _ hb0
    omega
  refine ⟨l, fun a ha => ?_, hbb, _, hcs, fun η X hX => ?_⟩
  · obtain ⟨i, hi, rfl⟩ := List.getElem_of_mem ha
    obtain ⟨b, o, _, _, hf⟩ := hr (by omega)
    exact (hf i _ (List.getElem?_eq_getElem hi)).1
  · simp only [Rep]
    refine ⟨A, c, by rw [List.length_map], by rw [List.length_map]; exact hlc, by rw [List.length_map]; omega, trivial, fun h0 => ?_⟩
    rw [List.length_map] at h0
    obtain ⟨b, o, e, hbl, hf⟩ := hr h0
    refine ⟨b, o, 1, e, by omega, RepE.mk fun i d hd => ?_⟩
    rw [List.getElem?_map] at hd
    cases hi : l[i]? with
    | none => rw [hi] at hd; cases hd
    | some a =>
      rw [hi] at hd
      injection hd with hd
      subst hd
      exact ⟨by simp only [RepA], fun _ => ⟨rfl, hX _ _, g a, (hf i a hi).2, hg a, by simp only [Rep]⟩⟩
end
end Go.Proofs.YtonncfminojejaaGreatDoor

namespace Go.Proofs.YtonncfminojejaaGreatDoor
open Go.RowKit
def bad1 (kd num : Int) (xl nn ni : Nat) : Prop := kd < 1 ∨ 6 < kd ∨ (kd ≠ 1 ∧ kd ≠ 2 ∧ num ≠ 0) ∨ (kd ≠ 3 ∧ kd ≠ 4 ∧ 0 < xl) ∨ (kd ≠ 5 ∧ 0 < nn) ∨ (kd ≠ 6 ∧ 0 < ni)
instance (kd num : Int) (xl nn ni : Nat) : Decidable (bad1 kd num xl nn ni) := by unfold bad1; exact inferInstance
def bad2 (kd num : Int) (xl nn ni np : Nat) (bn : Bool) : Prop := (kd = 1 ∧ num ≠ 0 ∧ num ≠ 1) ∨ (kd = 3 ∧ 64 < xl) ∨ (kd = 4 ∧ bn = false) ∨ 8 < nn ∨ 12 < ni ∨ np ≠ nn + ni
instance (kd num : Int) (xl nn ni np : Nat) (bn : Bool) : Decidable (bad2 kd num xl nn ni np bn) := by unfold bad2; exact inferInstance
def hereV (v : DVal) : Bool := (!decide (bad1 v.kind v.n v.s.length v.names.length v.ids.length) && !decide (bad2 v.kind v.n v.s.length v.names.length v.ids.length v.parts.length (nameB v.s))) && ((List.range v.names.length).all (riseOk v.names) && (List.range v.ids.length).all (idOk v.ids))
end Go.Proofs.YtonncfminojejaaGreatDoor

namespace Go.Proofs.YtonncfminojejaaGreatDoor
open Go.RowKit
theorem sne1_2 (n : Nat) : (n + 1 = n + 2) = False := eq_false (by omega)
theorem sne1_3 (n : Nat) : (n + 1 = n + 3) = False := eq_false (by omega)
theorem sne1_4 (n : Nat) : (n + 1 = n + 4) = False := eq_false (by omega)
theorem sne2_1 (n : Nat) : (n + 2 = n + 1) = False := eq_false (by omega)
theorem sne2_3 (n : Nat) : (n + 2 = n + 3) = False := eq_false (by omega)
theorem sne2_4 (n : Nat) : (n + 2 = n + 4) = False := eq_false (by omega)
theorem sne3_1 (n : Nat) : (n + 3 = n + 1) = False := eq_false (by omega)
theorem sne3_2 (n : Nat) : (n + 3 = n + 2) = False := eq_false (by omega)
theorem sne3_4 (n : Nat) : (n + 3 = n + 4) = False := eq_false (by omega)
theorem sne4_1 (n : Nat) : (n + 4 = n + 1) = False := eq_false (by omega)
theorem sne4_2 (n : Nat) : (n + 4 = n + 2) = False := eq_false (by omega)
theorem sne4_3 (n : Nat) : (n + 4 = n + 3) = False := eq_false (by omega)
theorem sne1_0 (n : Nat) : (n + 1 = n) = False := eq_false (by omega)
theorem sne0_1 (n : Nat) : (n = n + 1) = False := eq_false (by omega)
theorem sne2_0 (n : Nat) : (n + 2 = n) = False := eq_false (by omega)
theorem sne0_2 (n : Nat) : (n = n + 2) = False := eq_false (by omega)
theorem sne3_0 (n : Nat) : (n + 3 = n) = False := eq_false (by omega)
theorem sne0_3 (n : Nat) : (n = n + 3) = False := eq_false (by omega)
theorem sne4_0 (n : Nat) : (n + 4 = n) = False := eq_false (by omega)
theorem sne0_4 (n : Nat) : (n = n + 4) = False := eq_false (by omega)
attribute [go_sem] sne1_2 sne1_3 sne1_4 sne2_1 sne2_3 sne2_4 sne3_1 sne3_2 sne3_4 sne4_1 sne4_2 sne4_3 sne1_0 sne0_1 sne2_0 sne0_2 sne3_0 sne0_3 sne4_0 sne0_4
theorem bin_beql {x y : Operand} (a b : Bool) : dbin Tryz.prog .eql 4 x y (.v (.bool a)) (.v (.bool b)) = some (True, .v (.bool (a == b))) := by
  cases a <;> cases b <;> kernel_rfl
attribute [go_sem] bin_beql
def headF (v : DVal) (s : DSch) : Bool := decide (v.kind = s.kind) && ((!decide (v.kind = 4) || decide (v.s ∈ s.words)) && (!decide (v.kind = 5) || decide (v.names = s.words)))
def atF (s : DSch) (i : Nat) : Nat := if s.kind = 6 then 0 else i
end Go.Proofs.YtonncfminojejaaGreatDoor

namespace Go.Proofs.YtonncfminojejaaGreatDoor
open Go.RowKit
theorem pfin_cell_tmp_normal {P : Program} {S : St} {f : Fm} (x : Tmp) (t : TypeId) (u : Tmp) (S' : St) (d : D) : DQ.pfin P [.cell x t, .tmp u] S d .normal f S' = dcellR P S' t (f x) (fun r => PFin S S' (.tup [r, f u]) d) := by
  rw [← onVal_cell]
  simp [DQ.pfin, dresL, dres, onVal, one]
theorem pfin_cell_tmp_ret {P : Program} {S : St} {f : Fm} (x : Tmp) (t : TypeId) (u : Tmp) (S' : St) (d : D) : DQ.pfin P [.cell x t, .tmp u] S d .ret f S' = dcellR P S' t (f x) (fun r => PFin S S' (.tup [r, f u]) d) := by
  rw [← onVal_cell]
  simp [DQ.pfin, dresL, dres, onVal, one]
attribute [go_sem] pfin_cell_tmp_normal pfin_cell_tmp_ret
abbrev DStp := Str × Nat
end Go.Proofs.YtonncfminojejaaGreatDoor

namespace Go.Proofs.YtonncfminojejaaGreatDoor
open Go.RowKit
theorem fin_cell_normal {P : Program} {S : St} {f : Fm} {K : D → St → Prop} (x : Tmp) (t : TypeId) (S' : St) : DQ.fin P [.cell x t] S K .normal f S' = dcellR P S' t (f x) (fun r => DFinT P S S' r K) := onVal_cell x t _
theorem fin_cell_ret {P : Program} {S : St} {f : Fm} {K : D → St → Prop} (x : Tmp) (t : TypeId) (S' : St) : DQ.fin P [.cell x t] S K .ret f S' = dcellR P S' t (f x) (fun r => DFinT P S S' r K) := onVal_cell x t _
theorem fin_cell_tmp_normal {P : Program} {S : St} {f : Fm} {K : D → St → Prop} (x : Tmp) (t : TypeId) (u : Tmp) (S' : St) : DQ.fin P [.cell x t, .tmp u] S K .normal f S' = dcellR P S' t (f x) (fun r => DFinT P S S' (.tup [r, f u]) K) := by
  rw [← onVal_cell]
  simp [DQ.fin, dresL, dres, onVal, one]
theorem fin_cell_tmp_ret {P : Program} {S : St} {f : Fm} {K : D → St → Prop} (x : Tmp) (t : TypeId) (u : Tmp) (S' : St) : DQ.fin P [.cell x t, .tmp u] S K .ret f S' = dcellR P S' t (f x) (fun r => DFinT P S S' (.tup [r, f u]) K) := by
  rw [← onVal_cell]
  simp [DQ.fin, dresL, dres, onVal, one]
attribute [go_sem] fin_cell_normal fin_cell_ret fin_cell_tmp_normal fin_cell_tmp_ret
end Go.Proofs.YtonncfminojejaaGreatDoor

namespace Go.Proofs.YtonncfminojejaaGreatDoor
open Go.RowKit
theorem fin_tmp_normal {P : Program} {S : St} {f : Fm} {K : D → St → Prop} (t : Tmp) (S' : St) : DQ.fin P [.tmp t] S K .normal f S' = DFinT P S S' (f t) K := by simp [DQ.fin, dresL, dres, onVal, one]
theorem fin_tmp_ret {P : Program} {S : St} {f : Fm} {K : D → St → Prop} (t : Tmp) (S' : St) : DQ.fin P [.tmp t] S K .ret f S' = DFinT P S S' (f t) K := by simp [DQ.fin, dresL, dres, onVal, one]
attribute [go_sem] fin_tmp_normal fin_tmp_ret
end Go.Proofs.YtonncfminojejaaGreatDoor

namespace Go.Proofs.YtonncfminojejaaGreatDoor
open Go.RowKit

theorem ob_hit {S : St} {o : Ob} {k : Nat} (h : k = S.next) : (S.add o).ob k = some o := by rw [add_ob, if_pos h]
theorem ob_skip {S : St} {o : Ob} {k : Nat} (h : k ≠ S.next) : (S.add o).ob k = S.ob k := by rw [add_ob, if_neg h]
theorem ob_set {S : St} {o : Ob} {k j : Nat} (h : j = k) : (S.set k o).ob j = some o := by rw [set_ob, if_pos h]
theorem ob_old {S : St} {o : Ob} {k j : Nat} (h : j ≠ k) : (S.set k o).ob j = S.ob j := by rw [set_ob, if_neg h]
theorem drop_next (S : St) (g : Nat) : (S.drop g).next = S.next := Eq.trans (Eq.refl _) (Eq.refl _)
theorem ob_drop {S : St} {g k : Nat} (h : k ≠ g) : (S.drop g).ob k = S.ob k := by simp only [St.drop, if_neg h]
theorem int_zero : ((0 : Nat) : Int) = 0 := Eq.trans (Eq.refl _) (Eq.refl _)
attribute [go_sem] ob_hit ob_skip ob_set ob_old ob_drop drop_next getD_map Int.natCast_nonneg int_zero beq_self_eq_true Int.toNat_zero List.range_zero List.mem_cons List.not_mem_nil or_false forall_eq forall_eq_or_imp false_implies implies_true Option.isSome_some bnd or_true Int.toNat_one Int.le_refl ge_iff_le gt_iff_lt Nat.sub_zero
theorem cells_win_ (k off n c : Nat) : (D.win k off n c).cells = [D.win k off n c] := Eq.trans (Eq.refl _) (Eq.refl _)
theorem okCell_win_ (k off n c : Nat) : (D.win k off n c).okCell = true := Eq.trans (Eq.refl _) (Eq.refl _)
attribute [go_sem] cells_win_ okCell_win_
/-! What is written. -/
def dstOk (W : Nat → Bool) : Option Tmp → Bool
  | none => true
  | some t => W t
def wrOk (W : Nat → Bool) : Code → Bool
  | .region _ ops _ => ops.all fun o => dstOk W o.dst
  | .seq x y => wrOk W x && wrOk W y
  | .cond _ x y => wrOk W x && wrOk W y
  | .block _ c => wrOk W c
  | .loop c => wrOk W c
  | _ => true
def Off (W : Nat → Bool) (f f' : Fm) : Prop := ∀ t, W t = false → f' t = f t
theorem Off.refl (W : Nat → Bool) (f : Fm) : Off W f f := fun _ _ => rfl
theorem Off.trans {W : Nat → Bool} {f g h : Fm} (a : Off W f g) (b : Off W g h) : Off W f h := fun t ht => (b t ht).trans (a t ht)
theorem Off.put {W : Nat → Bool} {f g : Fm} (a : Off W f g) {dst : Option Tmp} (hd : dstOk W dst = true) (d : D) : Off W f (put g dst d) := fun t ht => by
  rw [put_same (fun e => by subst e; simp only [dstOk] at hd; rw [hd] at ht; cases ht)]
  exact a t ht
theorem St.WF.add {S : St} (h : S.WF) (o : Ob) : (S.add o).WF := fun k hk => by
  have hk' : S.next + 1 ≤ k := hk
  simp only [St.add]
  rw [if_neg (by omega)]
  exact h k (by omega)
theorem St.WF.set {S : St} (h : S.WF) {k : Nat} (hk : k < S.next) (o : Ob) : (S.set k o).WF := fun j hj => by
  have hj' : S.next ≤ j := hj
  simp only [St.set]
  rw [if_neg (by omega)]
  exact h j hj'
theorem St.WF.drop {S : St} (h : S.WF) (g : Nat) : (S.drop g).WF := fun j hj => by
  have hj' : S.next ≤ j := hj
  simp only [St.drop]
  split
  · rfl
  · exact h j hj'
theorem St.WF.leave {S : St} (h : S.WF) (o : Own) : (S.leave o).WF := by
  cases o with
  | row g => exact h.drop g
  | no => exact h
  | full => exact h
theorem St.WF.grow {S : St} (h : S.WF) (o : Own) (e : TypeId) (n : Nat) : (S.grow o e n).WF := (h.leave o).add _
theorem St.WF.keep {S : St} (h : S.WF) {n : Nat} (hn : S.next ≤ n) : (St.mk n S.ob).WF := fun k hk => h k (Nat.le_trans hn hk)
theorem St.Sub.keep {S T : St} (h : S.Sub T) {n : Nat} (hn : T.next ≤ n) : S.Sub ⟨n, T.ob⟩ := ⟨Nat.le_trans h.next hn, h.ob⟩
theorem St.Sub.trans {A B C : St} (h : A.Sub B) (k : B.Sub C) : A.Sub C := ⟨Nat.le_trans h.next k.next, fun i o hi => k.ob i o (h.ob i o hi)⟩
theorem DCalls.wf {P : Program} {g : FuncId} {args : List D} {S : St} {K : D → St → Prop} (h : DCalls P g args S K) : DCalls P g args S fun d S' => K d S' ∧ S'.WF := fun base η w vs hM hr => by
  rcases h base η w vs hM hr with ⟨h1, h2⟩ | ⟨d, S', η', v, w', h1, h2, h3, h4⟩
  · exact .inl ⟨h1, h2.mono fun _ _ ⟨d, S', η', v, h1, h2, h3, h4⟩ => ⟨d, S', η', v, ⟨h1, h4.mem.fresh⟩, h2, h3, h4⟩⟩
  · exact .inr ⟨d, S', η', v, w', h1, ⟨h2, h4.mem.fresh⟩, h3, h4⟩
theorem DRun.wf {P : Program} {run : List Value → Sem Value} {args : List D} {S : St} {K : D → St → Prop} (h : DRun P run args S K) : DRun P run args S fun d S' => K d S' ∧ S'.WF := fun base η w vs hM hr => by
  obtain ⟨d, S', η', v, w', h1, h2, h3, h4⟩ := h base η w vs hM hr
  exact ⟨d, S', η', v, w', h1, ⟨h2, h4.mem.fresh⟩, h3, h4⟩
theorem onVal_and {o : Option (Prop × D)} {K : D → Prop} {p : Prop} (hp : p) (h : onVal o K) : onVal o fun d => K d ∧ p := onVal_mono (fun _ hd => ⟨hd, hp⟩) h
section
variable {P : Program} {W : Nat → Bool}
theorem dop_more {f : Fm} {S : St} {ty : TypeId} {op : Op} {K : D → St → Prop} (hS : S.WF) (ho : dop P f S ty op K) : dop P f S ty op fun d S' => K d S' ∧ S'.WF := by
  cases op with
  | alloc t => simp only [dop] at *; exact ⟨ho.1, ho.2, hS.add _⟩
  | box t x => simp only [dop] at *; exact ⟨ho.1, ho.2, hS.add _⟩
  | store t x y =>
    simp only [dop] at *
    split at ho
    · split at ho
      · rename_i k off _ _ t' cs hk
        exact ⟨ho.1, ho.2.1, ho.2.2.1, ho.2.2.2.1, ho.2.2.2.2, hS.set (hS.lt hk) _⟩
      · exact ho
    · exact ho
  | call cl =>
    obtain ⟨callee, args, ts⟩ := cl
    cases callee with
    | value x =>
      simp only [dop] at *
      split at ho
      · exact ho.wf
      · exact ho
    | invoke r m =>
      simp only [dop] at *
      split at ho
      · obtain ⟨g, d', h1, h2⟩ := ho
        exact ⟨g, d', h1, h2.wf⟩
      · exact ho
    | builtin b =>
      by_cases hb : b = .append
      · subst hb
        simp only [dop] at *
        split at ho
        · split at ho
          · rcases ho with ⟨k1, k2, k3, k4, k5, k6, k7, k8⟩ | ⟨k1, k2, k3, k4, k5, k6, k7, k8, k9, k10⟩ | ho
            · exact .inl ⟨k1, k2, k3, k4, k5, k6, k7, k8, hS.grow _ _ _⟩
            · exact .inr (.inl ⟨k1, k2, k3, k4, k5, k6, k7, k8, k9, fun c zs e1 e2 => ⟨k10 c zs e1 e2, hS.add _⟩⟩)
            · exact .inr (.inr ho.wf)
          · exact ho
        · exact ho.wf
        · exact ho.wf
        · exact ho.wf
        · exact ho
      · cases b <;> first | exact absurd rfl hb | (simp only [dop] at *; exact onVal_and hS ho) | exact DRun.wf ho
  | makeSlice t x y => exact DRun.wf ho
  | typeAssert x xt t ok => exact DRun.wf ho
  | lookup t x i ok => exact DRun.wf ho
  | makeMap t r => exact DRun.wf ho
  | mapUpdate t m k x => exact (DRun.wf ho).mono fun d S' hd => ⟨hd.1.1, hd.1.2, hd.2⟩
  | insert t m k x => exact (DRun.wf ho).mono fun d S' hd => ⟨hd.1.1, hd.1.2, hd.2⟩
  | _ => simp only [dop] at *; exact onVal_and hS ho
theorem dops_more_n {ops : Array Oper} {Q : Fm → St → Prop} : ∀ (n : Nat) (l : List Oper), l.length ≤ n → (∀ o ∈ l, dstOk W o.dst = true) → ∀ {f : Fm} {S : St}, S.WF → dops P ops Q l f S → dops P ops (fun f' S' => Q f' S' ∧ S'.WF ∧ Off W f f') l f S
  | _, [], _, _, f, S, hS, h => ⟨h, hS, Off.refl W f⟩
  | 0, o :: l, hn, _, _, _, _, _ => absurd hn (by simp)
  | n + 1, o :: l, hln, hw, f, S, hS, h => by
    simp only [List.length_cons] at hln
    rw [dops_cons] at h
    rw [dops_cons]
    have h1 := hw o (by simp)
    have h2 : ∀ o' ∈ l, dstOk W o'.dst = true := fun o' ho => hw o' (by simp [ho])
    refine dwanted_mono (fun hy => dbs_mono (fun hy => ?_) (fun hB => ?_) hy) (fun hn => ?_) h
    · refine dop_mono (fun d S' hk => ?_) (dop_more hS hy)
      refine dops_mono (fun f' S'' hq => ?_) l (dops_more_n n l (by omega) h2 hk.2 hk.1)
      exact ⟨hq.1, hq.2.1, (Off.put (Off.refl W f) h1 d).trans hq.2.2⟩
    · obtain ⟨dst, op, ty, pos, after, guard⟩ := o
      cases op with
      | buildSlice t m ps =>
        cases l with
        | nil => exact hB.elim
        | cons o2 r2 =>
          obtain ⟨e, bs, k, b1, b2, b3, b4, b5, b6, b7, b8, b9, b10⟩ := hB
          refine ⟨e, bs, k, b1, b2, b3, b4, b5, b6, b7, b8, b9, dwanted_mono (fun hq => ?_) (fun x => x) b10⟩
          have h3 := h2 o2 (by simp)
          refine dops_mono (fun f' S'' hq => ?_) r2 (dops_more_n n r2 (by simp only [List.length_cons] at hln; omega) (fun o' ho => h2 o' (by simp [ho])) hS hq)
          exact ⟨hq.1, hq.2.1, ((Off.put (Off.refl W f) h1 _).trans (Off.put (Off.refl W _) h3 _)).trans hq.2.2⟩
      | _ => exact hB.elim
    · refine dops_mono (fun f' S'' hq => ?_) l (dops_more_n n l (by omega) h2 hS hn)
      exact ⟨hq.1, hq.2.1, (Off.put (Off.refl W f) h1 _).trans hq.2.2⟩
theorem dops_more {ops : Array Oper} {Q : Fm → St → Prop} (l : List Oper) (hw : ∀ o ∈ l, dstOk W o.dst = true) {f : Fm} {S : St} (hS : S.WF) (h : dops P ops Q l f S) : dops P ops (fun f' S' => Q f' S' ∧ S'.WF ∧ Off W f f') l f S := dops_more_n l.length l (Nat.le_refl _) hw hS h
theorem dhead_more {ops : Array Oper} {S : St} (hS : S.WF) {Q : Fm → St → Prop} : ∀ (l : List Oper), (∀ o ∈ l, dstOk W o.dst = true) → ∀ {f : Fm} {u : Option Ob}, dhead P ops S Q l f u → dhead P ops S (fun f' S' => Q f' S' ∧ S'.WF ∧ Off W f f') l f u
  | [], _, f, u, h => ⟨h, (by cases u with | none => exact hS | some b => exact hS.add b), Off.refl W f⟩
  | o :: l, hw, f, u, h => by
    unfold dhead at *
    have h1 := hw o (by simp)
    have h2 : ∀ o' ∈ l, dstOk W o'.dst = true := fun o' ho => hw o' (by simp [ho])
    have go : ∀ (d : D) (u' : Option Ob), dhead P ops S Q l (put f o.dst d) u' → dhead P ops S (fun f' S' => Q f' S' ∧ S'.WF ∧ Off W f f') l (put f o.dst d) u' := fun d u' hd =>
      dhead_mono (fun f' S' hq => ⟨hq.1, hq.2.1, (Off.put (Off.refl W f) h1 d).trans hq.2.2⟩) l (dhead_more hS l h2 hd)
    split at h
    · exact hop_mono (fun d u' hd => go d u' hd) h
    · exact dwanted_mono (fun hq => dquiet_mono (fun d hd => go d u hd) hq) (go _ u) h
theorem sAny_more {ops : Array Oper} {md : Region.Mode} {Zs : St → Prop} {Q : Fm → St → Prop} (hw : ∀ (j : Nat) (o : Oper), ops[j]? = some o → dstOk W o.dst = true) : ∀ (fuel : Nat) (L : Array Bool) {f : Fm} {S : St}, S.WF → sAny P md ops Zs Q fuel L f S → sAny P md ops Zs (fun f' S' => Q f' S' ∧ S'.WF ∧ Off W f f') fuel L f S
  | 0, _, f, _, hS, k => ⟨k.1, k.2, hS, Off.refl W f⟩
  | n + 1, L, f, S, hS, k => by
    refine ⟨fun e => ⟨k.1 e, hS, Off.refl W f⟩, fun i hi => ?_⟩
    have h2 := k.2 i hi
    unfold sOp at *
    cases ho : ops[i]? with
    | none => rw [ho] at h2; exact sAny_more hw n _ hS h2
    | some o =>
      rw [ho] at h2
      have h1 := hw i o ho
      have go : ∀ d (S' : St), S'.WF → sAny P md ops Zs Q n (L.setIfInBounds i true) (put f o.dst d) S' → sAny P md ops Zs (fun f' S' => Q f' S' ∧ S'.WF ∧ Off W f f') n (L.setIfInBounds i true) (put f o.dst d) S' := fun d S' hS' hk =>
        sAny_mono (fun f' S' hq => ⟨hq.1, hq.2.1, (Off.put (Off.refl W f) h1 d).trans hq.2.2⟩) _ _ (sAny_more hw n _ hS' hk)
      rcases h2 with ⟨d, e1, e2⟩ | ⟨e1, e2⟩
      · exact .inl ⟨d, e1, go d S hS e2⟩
      · refine .inr ⟨e1, e2.imp (fun e2 => dop_mono (fun d S' hk => ⟨hk.1.1, go d S' hk.2 hk.1.2⟩) (dop_more hS e2)) fun e2 => e2.imp (fun e2 => ?_) fun ⟨d, q1, q2, q3⟩ => ⟨d, q1, q2, go d S hS q3⟩⟩
        unfold dbw at *
        split at e2
        · obtain ⟨e, b1, b2, b3, b4, b5, b6⟩ := e2
          exact ⟨e, b1, b2, b3, b4, b5, b6.1, go _ _ (hS.add _) b6.2⟩
        · exact e2.elim
theorem dwp_more : ∀ (c : Code) {Q : DQ} {f : Fm} {S : St}, wrOk W c = true → S.WF → dwp P c Q f S → dwp P c (fun e f' S' => Q e f' S' ∧ S'.WF ∧ Off W f f') f S := by
  intro c
  induction c with
  | region id ops draw =>
    intro Q f S hw hS h
    have hw' : ∀ o ∈ ops.toList, dstOk W o.dst = true := fun o ho => Array.all_eq_true_iff_forall_mem.1 hw o (by simpa using ho)
    cases draw with
    | false => exact dops_more _ hw' hS h
    | true =>
      rcases h with ⟨n, h1, h2⟩ | ⟨Zs, n, h1, h2, h3⟩
      rotate_left
      · refine .inr ⟨Zs, n, h1, h2, sAny_mono (fun f' S' hq => ?_) _ _ (sAny_more (W := W) (fun j o ho => hw' o (by
          have := List.mem_of_getElem? (show (ops.toList.take n)[j]? = some o by simpa using ho)
          exact List.mem_of_mem_take this)) _ _ hS h3)⟩
        refine dops_mono (fun f'' S'' hk => ?_) _ (dops_more (W := W) _ (fun o ho => hw' o (List.mem_of_mem_drop ho)) hq.2.1 hq.1)
        exact ⟨hk.1, hk.2.1, hq.2.2.trans hk.2.2⟩
      refine .inl ⟨n, h1, dhead_mono (fun f' S' hq => ?_) _ (dhead_more (W := W) hS _ (fun o ho => hw' o (List.mem_of_mem_take ho)) h2)⟩
      refine dops_mono (fun f'' S'' hk => ?_) _ (dops_more (W := W) _ (fun o ho => hw' o (List.mem_of_mem_drop ho)) hq.2.1 hq.1)
      exact ⟨hk.1, hk.2.1, hq.2.2.trans hk.2.2⟩
  | seq x y ihx ihy =>
    intro Q f S hw hS h
    simp only [wrOk, Bool.and_eq_true] at hw
    refine dwp_mono x (fun e f2 S2 hq => ?_) (ihx hw.1 hS h)
    cases e with
    | normal =>
      refine dwp_mono y (fun e3 f3 S3 h3 => ?_) (ihy (Q := Q) hw.2 hq.2.1 hq.1)
      exact ⟨h3.1, h3.2.1, hq.2.2.trans h3.2.2⟩
    | exit i => exact hq
    | ret => exact hq
  | cond g x y ihx ihy =>
    intro Q f S hw hS h
    simp only [wrOk, Bool.and_eq_true] at hw
    unfold dwp at h ⊢
    generalize ev f g = u at h ⊢
    cases u with
    | v u => cases u with
      | bool b => exact ⟨fun e => ihx hw.1 hS (h.1 e), fun e => ihy hw.2 hS (h.2 e)⟩
      | _ => exact h
    | _ => exact h
  | block id c ih =>
    intro Q f S hw hS h
    refine dwp_mono c (fun e f2 S2 hq => ?_) (ih hw hS h)
    cases e with
    | normal => exact hq
    | ret => exact hq
    | exit i =>
      simp only [DQ.block] at *
      cases hb : Nat.beq i id with
      | true => rw [hb] at hq; exact hq
      | false => rw [hb] at hq; exact hq
  | loop c ih =>
    intro Q f S hw hS h
    obtain ⟨I, μ, h0, hr⟩ := h
    refine ⟨fun g T => I g T ∧ T.WF ∧ Off W f g, μ, ⟨h0, hS, Off.refl W f⟩, fun g T ⟨hI, hT, hg⟩ => ?_⟩
    refine dwp_mono c (fun e f2 S2 hq => ?_) (ih hw hT (hr g T hI))
    obtain ⟨hq, hwf, hoff⟩ := hq
    cases e with
    | normal =>
      obtain ⟨S'', ⟨s1, s2⟩, s3, s4⟩ := hq
      refine ⟨S'', ⟨s1, s2⟩, ⟨s3, fun k hk => ?_, hg.trans hoff⟩, s4⟩
      cases ho : S''.ob k with
      | none => rfl
      | some o => have := s2 k o ho; rw [hwf k (by omega)] at this; cases this
    | exit i => exact ⟨hq, hwf, hg.trans hoff⟩
    | ret => exact ⟨hq, hwf, hg.trans hoff⟩
  | skip => intro Q f S _ hS k; exact ⟨k, hS, Off.refl W f⟩
  | label l => intro Q f S _ hS k; exact ⟨k, hS, Off.refl W f⟩
  | exit i => intro Q f S _ hS k; exact ⟨k, hS, Off.refl W f⟩
  | ret => intro Q f S _ hS k; exact ⟨k, hS, Off.refl W f⟩
  | rangeFunc x ps aa b _ _ => intro Q f S _ _ k; exact k.elim
  | scope c _ => intro Q f S _ _ k; exact k.elim
  | goto l => intro Q f S _ _ k; exact k.elim
  | refuse s => intro Q f S _ _ k; exact k.elim
def dnextR (I : Nat → Fm → St → Prop) (m : Nat) (f' : Fm) (S' : St) : Prop := ∃ (m' : Nat) (ob : Nat → Option Ob), m' < m ∧ (∀ k o, ob k = some o → S'.ob k = some o) ∧ I m' f' ⟨S'.next, ob⟩
theorem least_of {p : Nat → Prop} (h : ∃ n, p n) : ∃ n, p n ∧ ∀ m, p m → n ≤ m := by
  obtain ⟨n, hn⟩ := h
  induction n using Nat.strongRecOn with
  | _ n ih =>
    by_cases hx : ∃ m, m < n ∧ p m
    · obtain ⟨m, h1, h2⟩ := hx
      exact ih m h1 h2
    · refine ⟨n, hn, fun m hm => ?_⟩
      rcases Nat.lt_or_ge m n with h1 | h1
      · exact absurd ⟨m, h1, hm⟩ hx
      · exact h1
theorem dloop_down {c : Code} {Q : DQ} {f : Fm} {S : St} (W : Nat → Bool) (hW : wrOk W c = true) (hS : S.WF) (I : Nat → Fm → St → Prop) (m : Nat) (h0 : I m f S)
    (hr : ∀ m g T, T.WF → Off W f g → I m g T → dwp P c (DQ.then (dnextR I m) Q) g T) : DLoop (dwp P c) Q f S := by
  classical
  let J : Fm → St → Nat → Prop := fun g T m => I m g T ∧ T.WF ∧ Off W f g
  refine ⟨fun g T => ∃ m, J g T m, fun g T => if h : ∃ m, J g T m then Classical.choose (least_of h) else 0, ⟨m, h0, hS, Off.refl W f⟩, fun g T hI => ?_⟩
  have hf := (Classical.choose_spec (least_of hI)).1
  obtain ⟨h1, h2, h3⟩ := hf
  refine dwp_mono c (fun e f2 S2 hq => ?_) (dwp_more (W := W) c hW h2 (hr _ g T h2 h3 h1))
  obtain ⟨hq, hwf, hoff⟩ := hq
  cases e with
  | normal =>
    obtain ⟨m', ob, k1, k2, k3⟩ := hq
    have hw2 : (St.mk S2.next ob).WF := fun k hk => by
      cases ho : ob k with
      | none => exact ho
      | some o => have := k2 k o ho; rw [hwf k hk] at this; cases this
    have hj : J f2 ⟨S2.next, ob⟩ m' := ⟨k3, hw2, h3.trans hoff⟩
    refine ⟨⟨S2.next, ob⟩, ⟨rfl, k2⟩, ⟨m', hj⟩, ?_⟩
    show (if h : ∃ m, J f2 ⟨S2.next, ob⟩ m then Classical.choose (least_of h) else 0) < (if h : ∃ m, J g T m then Classical.choose (least_of h) else 0)
    rw [dif_pos ⟨m', hj⟩, dif_pos hI]
    exact Nat.lt_of_le_of_lt ((Classical.choose_spec (least_of ⟨m', hj⟩)).2 m' hj) k1
  | exit i => exact hq
  | ret => exact hq
def dnextU (I : Nat → Fm → St → Prop) (n i : Nat) (f' : Fm) (S' : St) : Prop := i < n ∧ ∃ ob : Nat → Option Ob, (∀ k o, ob k = some o → S'.ob k = some o) ∧ I (i + 1) f' ⟨S'.next, ob⟩
theorem dloop_up {c : Code} {Q : DQ} {f : Fm} {S : St} (W : Nat → Bool) (hW : wrOk W c = true) (hS : S.WF) (n : Nat) (I : Nat → Fm → St → Prop) (h0 : I 0 f S)
    (hr : ∀ i g T, T.WF → Off W f g → I i g T → dwp P c (DQ.then (dnextU I n i) Q) g T) : DLoop (dwp P c) Q f S := by
  refine dloop_down W hW hS (fun m g T => ∃ i, m = n - i ∧ I i g T) (n - 0) ⟨0, rfl, h0⟩ fun m g T hT hg ⟨i, hm, hI⟩ => ?_
  subst hm
  refine dwp_mono c (fun e f2 S2 hq => ?_) (hr i g T hT hg hI)
  cases e with
  | normal =>
    obtain ⟨k1, ob, k2, k3⟩ := hq
    exact ⟨n - (i + 1), ob, by omega, k2, i + 1, rfl, k3⟩
  | exit i => exact hq
  | ret => exact hq
def dnextS (S : St) (I : Nat → Fm → Prop) (n i : Nat) (f' : Fm) (S' : St) : Prop := i < n ∧ S.Sub S' ∧ I (i + 1) f'
theorem dloop_st {c : Code} {Q : DQ} {f : Fm} {S : St} (W : Nat → Bool) (hW : wrOk W c = true) (hS : S.WF) (n : Nat) (I : Nat → Fm → Prop) (h0 : I 0 f)
    (hr : ∀ i g tn, S.next ≤ tn → (St.mk tn S.ob).WF → Off W f g → I i g → dwp P c (DQ.then (dnextS S I n i) Q) g ⟨tn, S.ob⟩) : DLoop (dwp P c) Q f S := by
  refine dloop_up W hW hS n (fun i g T => S.next ≤ T.next ∧ T.ob = S.ob ∧ I i g) ⟨Nat.le_refl _, rfl, h0⟩ fun i g T hT hg ⟨h1, h2, h3⟩ => ?_
  obtain ⟨tn, tob⟩ := T
  have h2' : tob = S.ob := h2
  subst h2'
  refine dwp_mono c (fun e f2 S2 hq => ?_) (hr i g tn h1 hT hg h3)
  cases e with
  | normal => exact ⟨hq.1, S.ob, hq.2.1.ob, hq.2.1.next, rfl, hq.2.2⟩
  | exit i => exact hq
  | ret => exact hq
def dnextV (S : St) (v : Nat) (b : Nat → Ob) (I : Nat → Fm → Prop) (n i : Nat) (f' : Fm) (S' : St) : Prop := i < n ∧ (S.set v (b (i + 1))).Sub S' ∧ I (i + 1) f'
theorem dloop_var {c : Code} {Q : DQ} {f : Fm} {S : St} (W : Nat → Bool) (hW : wrOk W c = true) (hS : S.WF) (n : Nat) (v : Nat) (b : Nat → Ob) (hv : S.ob v = some (b 0)) (I : Nat → Fm → Prop) (h0 : I 0 f)
    (hr : ∀ i g tn, S.next ≤ tn → (St.mk tn (S.set v (b i)).ob).WF → Off W f g → I i g → dwp P c (DQ.then (dnextV S v b I n i) Q) g ⟨tn, (S.set v (b i)).ob⟩) : DLoop (dwp P c) Q f S := by
  have hb : (S.set v (b 0)).ob = S.ob := by
    funext k
    simp only [St.set]
    split
    · rename_i h; rw [h, hv]
    · rfl
  refine dloop_up W hW hS n (fun i g T => S.next ≤ T.next ∧ T.ob = (S.set v (b i)).ob ∧ I i g) ⟨Nat.le_refl _, hb.symm, h0⟩ fun i g T hT hg ⟨h1, h2, h3⟩ => ?_
  obtain ⟨tn, tob⟩ := T
  have h2' : tob = (S.set v (b i)).ob := h2
  subst h2'
  refine dwp_mono c (fun e f2 S2 hq => ?_) (hr i g tn h1 hT hg h3)
  cases e with
  | normal => exact ⟨hq.1, (S.set v (b (i + 1))).ob, hq.2.1.ob, hq.2.1.next, rfl, hq.2.2⟩
  | exit i => exact hq
  | ret => exact hq
theorem St.Sub.upd {S X : St} {v tn : Nat} {b B B' : Ob} (hn : S.next ≤ tn) (hB : B' = B) (h : St.Sub ⟨tn, (S.set v b).ob⟩ X) : (S.set v B').Sub (X.set v B) := ⟨Nat.le_trans hn h.next, fun k o hk => by
  subst hB
  simp only [set_ob] at *
  split
  · rename_i e; rw [if_pos e] at hk; exact hk
  · rename_i e
    rw [if_neg e] at hk
    refine h.ob k o ?_
    show (S.set v b).ob k = _
    rw [set_ob, if_neg e]
    exact hk⟩
/-! A row that grows. -/
def rowOf (S : St) (own : Own) (e : TypeId) (n : Nat) : Nat → Option Ob := fun k => match own with
  | .row g => if k = g then some (.row e n) else S.ob k
  | _ => S.ob k
def RowOk (lo : Nat) (S : St) (own : Own) (n : Nat) : Prop := own = .full ∨ ∃ g, own = .row g ∧ lo ≤ g ∧ S.ob g = none ∧ g < n
theorem rowOf_some {lo : Nat} {S : St} {own : Own} {n : Nat} (h : RowOk lo S own n) {e : TypeId} {m k : Nat} {o : Ob} (hk : S.ob k = some o) : rowOf S own e m k = some o := by
  rcases h with rfl | ⟨g, rfl, _, h1, _⟩
  · exact hk
  · have : k ≠ g := fun e => by subst e; rw [h1] at hk; cases hk
    show (if k = g then _ else _) = _
    rw [if_neg this]
    exact hk
theorem RowOk.sub {lo : Nat} {S : St} {own : Own} {e : TypeId} {m n : Nat} (h : RowOk lo S own n) (hn : S.next ≤ n) : S.Sub ⟨n, rowOf S own e m⟩ := ⟨hn, fun k o hk => rowOf_some h hk⟩
theorem leave_next (S : St) (own : Own) : (S.leave own).next = S.next := by cases own <;> rfl
theorem aI {a b : Prop} (h : b) (ha : a := by with_reducible first | omega | assumption | rfl) : a ∧ b := ⟨ha, h⟩
theorem nx : (∀ (S : St) (o : Ob), (S.add o).next = S.next + 1) ∧ (∀ (S : St) (k : Nat) (o : Ob), (S.set k o).next = S.next) ∧ (∀ (S : St) (own : Own) (e : TypeId) (n : Nat), (S.grow own e n).next = S.next + 1) ∧ (∀ (S : St) (own : Own), (S.leave own).next = S.next) ∧ (∀ (S : St) (g : Nat), (S.drop g).next = S.next) ∧ (∀ (α β : Type) (f : α → β) (l : List α), (l.map f).length = l.length) :=
  ⟨add_next, set_next, grow_next, leave_next, drop_next, fun _ _ f l => List.length_map ..⟩
abbrev RowOk.lo {lo : Nat} {S : St} {own : Own} {n : Nat} (_ : RowOk lo S own n) : Nat := lo
end
end Go.Proofs.YtonncfminojejaaGreatDoor

namespace Go.Proofs.YtonncfminojejaaGreatDoor
open Go.ChangeShapes Go.WideShapes Go.RowKit
theorem door_own : ownKnob Tryz.prog.godebug = none := by kernel_rfl
theorem door_laidOut : laidOutB Tryz.prog = true := by kernel_rfl
theorem door_et : Tryz.prog.globalNamed "errors.errorType" = some 0 := by kernel_rfl
theorem door_rt : (Tryz.prog.cutTypes.find? (·.1 == "internal/reflectlite.rtype")).map (·.2) = some 129 := by kernel_rfl
theorem door_row : ((List.range Tryz.prog.types.size).filter fun t => Tryz.prog.rowNamed t [101, 114, 114, 111, 114]) = [30] := by kernel_rfl
abbrev doorLaid {H : Type} : List (String × DataW H) := [("errors.errorType", Rows.laid_errors_errorType)]
theorem handle_of_laid {W : World} (h : laidMetH Tryz.prog doorLaid W) : W.cell? ⟨0, 0, none⟩ = some (.iface 129 (.agg #[.pointer (some ⟨1, 30, none⟩)])) := by
  have h' : laidMet Tryz.prog [] W ∧ handlesMet Tryz.prog doorLaid W := h
  obtain ⟨name, u, ty, e1, e2, e3, e4, e5⟩ := h'.2 _ (List.mem_singleton.2 rfl)
  have en : name = [101, 114, 114, 111, 114] := (Option.some.inj e1).symm
  subst en
  obtain rfl := Option.some.inj (door_rt.symm.trans e2)
  have hm : ty ∈ (List.range Tryz.prog.types.size).filter fun t => Tryz.prog.rowNamed t [101, 114, 114, 111, 114] := List.mem_filter.2 ⟨List.mem_range.2 e3, e4⟩
  rw [door_row] at hm
  obtain rfl := List.mem_singleton.1 hm
  have hh : typeHandle Tryz.prog 30 = .pointer (some ⟨1, 30, none⟩) := by kernel_rfl
  rw [hh] at e5
  simpa using World.var?_cell door_et e5 0
theorem glob_of_laid {W : World} (h : laidMetH Tryz.prog doorLaid W) : GlobOk W.heap.size W := fun p hp => by
  have hc := handle_of_laid h
  have e : p = (0, .iface 129 (.agg #[.pointer (some ⟨1, 30, none⟩)])) := List.mem_singleton.1 hp
  subst e
  refine ⟨?_, hc⟩
  rcases Nat.lt_or_ge 0 W.heap.size with h0 | h0
  · exact h0
  · exact absurd hc (by simp [World.cell?, Array.getElem?_eq_none h0])
def door_st : St := ⟨0, fun _ => none⟩
section
variable {P : Program}
theorem door_mem (w : World) (hg : GlobOk w.heap.size w) : Mem P w.heap.size door_st (fun _ => none) w := ⟨Nat.le_refl _, fun _ _ => rfl, fun _ _ => rfl, (fun _ _ _ h => by cases h), (fun _ _ _ h => by cases h), (fun _ _ h => by cases h), (fun _ _ _ _ h => by cases h), (fun _ _ _ _ h => by cases h), hg⟩
theorem door_gives {g : FuncId} {args : List D} {v : Value} (h : DPure P g args (.v v)) {w : World} {vs : List Value} (hr : RepL P w (fun _ => none) (Fix P door_st fun _ => none) args vs) (hent : ∀ vs w, (callFunc g vs).run P w = .ok (.enter g vs) w := by intro _ _; kernel_rfl) (hg : GlobOk w.heap.size w) : Calls P g vs.toArray w (Gives v w) := by
  rcases h door_st w.heap.size _ w vs (door_mem w hg) hr with ⟨_, k⟩ | ⟨d, S', η', u, w', k, _⟩
  · refine k.mono fun _ _ ⟨d, S', η', u, ⟨h1, _⟩, h2, h3, h4⟩ => ?_
    subst h1
    simp only [Rep] at h3
    subst h3
    exact ⟨h2, h4.below⟩
  · rw [hent] at k
    injection k with k
    cases k
end
noncomputable def laidWorld (os : Os) : World :=
  let w0 := World.holding Tryz.prog os ⟨#[], #[], []⟩
  { w0 with heap := w0.heap.modify 0 fun
      | .cells _ t frozen => .cells #[.iface 129 (.agg #[.pointer (some ⟨1, 30, none⟩)])] t frozen
      | o => o }
theorem laidWorld_met (os : Os) (args : Array Value) : laidMetH Tryz.prog doorLaid ((laidWorld os).forCall (fun _ _ => 0) ⟨#[], args, []⟩).memory :=
  laidMetH_of_parts (laidMet_nil _ _) (by kernel_rfl)
end Go.Proofs.YtonncfminojejaaGreatDoor

namespace Go.Proofs.YtonncfminojejaaGreatDoor
open Go.RowKit

mutual
def D.thaw (k : Nat) (es : List D) : D → D
  | .agg cs => .agg (thawL k es cs)
  | .tup cs => .tup (thawL k es cs)
  | .win j off n c => bif Nat.beq j k && (Nat.beq off 0 && Nat.beq n es.length) then .sl .no es else .win j off n c
  | .v x => .v x
  | .fn f fs cs => .fn f fs cs
  | .ifc t d => .ifc t d
  | .loc j o => .loc j o
  | .rd cs o => .rd cs o
  | .sl o l => .sl o l
def thawL (k : Nat) (es : List D) : List D → List D
  | [] => []
  | d :: l => d.thaw k es :: thawL k es l
end
section
variable {P : Program} {base : Nat} {S : St} {η : Names} {w : World}
theorem win_cells (hM : Mem P base S η w) {k b : Nat} {e : TypeId} {es zs : List D} (hk : S.ob k = some (.box e (flat es ++ zs))) (hb : η k = some (some b)) (hw : ∀ d ∈ es, d.width = szOf P e) {X : Nat → Nat → Prop} (hX : ∀ i, X b i) {w' : World} {η' : Names} (hE : w' = w) (hK : ∀ {l : List D} {vs : List Value}, RepL P w η (Fix P S η) l vs → RepL P w' η' X l vs) : RepE P w' η' X (szOf P e) es b 0 := by
  subst hE
  obtain ⟨vs, h1, h2, h3⟩ := hM.box k e _ b hk hb
  refine RepE.of_flat hw ?_
  have h4 := RepC.mk (b := b) (o := 0) (hK h2) (fun j v hj => by
    rw [Nat.zero_add]
    have : w'.cell? ⟨b, j, none⟩ = vs.toArray[j]? := by simp [World.cell?, h1]
    rw [this]; simpa using hj) (fun j _ => hX _) h3
  exact h4.left.1
mutual
theorem Rep.thaw (hM : Mem P base S η w) {k : Nat} {e : TypeId} {es zs : List D} (hk : es = [] ∨ S.ob k = some (.box e (flat es ++ zs))) (hz : 0 < szOf P e) (hw : ∀ d ∈ es, d.width = szOf P e) : ∀ {d : D} {v : Value}, Rep P w η (Fix P S η) d v → Rep P w η (Fix P (S.drop k) η) (d.thaw k es) v
  | .v x, v, h => by simp only [D.thaw]; exact (goes_drop hM k).rep h
  | .fn f fs cs, v, h => by simp only [D.thaw]; exact (goes_drop hM k).rep h
  | .ifc t d, v, h => by simp only [D.thaw]; exact (goes_drop hM k).rep h
  | .loc j o, v, h => by simp only [D.thaw]; exact (goes_drop hM k).rep h
  | .rd cs o, v, h => by simp only [D.thaw]; exact (goes_drop hM k).rep h
  | .sl o l, v, h => by simp only [D.thaw]; exact (goes_drop hM k).rep h
  | .agg cs, v, h => by
    simp only [D.thaw, Rep] at *
    obtain ⟨vs, h1, h2, h3⟩ := h
    exact ⟨vs, h1, RepL.thaw hM hk hz hw h2, h3⟩
  | .tup cs, v, h => by
    simp only [D.thaw, Rep] at *
    obtain ⟨vs, h1, h2⟩ := h
    exact ⟨vs, h1, RepL.thaw hM hk hz hw h2⟩
  | .win j off n c, v, h => by
    cases hb : (Nat.beq j k && (Nat.beq off 0 && Nat.beq n es.length)) with
    | false =>
      have e1 : (D.win j off n c).thaw k es = .win j off n c := by simp only [D.thaw, hb, cond_false]
      rw [e1]
      exact (goes_drop hM k).rep h
    | true =>
      rw [Bool.and_eq_true, Bool.and_eq_true] at hb
      have e1 : j = k := Nat.eq_of_beq_eq_true hb.1
      have e4 : off = 0 := Nat.eq_of_beq_eq_true hb.2.1
      have e2 : n = es.length := Nat.eq_of_beq_eq_true hb.2.2
      subst e1 e2 e4
      have e3 : (D.win j 0 es.length c).thaw j es = .sl .no es := by simp [D.thaw]
      rw [e3]
      obtain ⟨A, h2, h3, h4, h1⟩ := h.win_slice
      simp only [Rep]
      refine ⟨A, c, h2, h3, h4, trivial, fun hpos => ?_⟩
      rcases hk with hk | hk
      · rw [hk] at hpos; exact absurd hpos (by simp)
      rcases h1 with ⟨b, h1, rfl⟩ | ⟨_, h1, _⟩
      rotate_left
      · omega
      refine ⟨b, 0, szOf P e, rfl, hz, ?_⟩
      refine win_cells hM hk h1 hw (fun i k' o hk' ho => ?_) rfl (fun hr => (goes_drop hM j).repL hr)
      by_cases hkj : k' = j
      · subst hkj
        simp [St.drop] at ho
      · simp only [St.drop, if_neg hkj] at ho
        exact absurd (hM.inj k' j b hk' h1 (by rw [ho]; rfl) (by rw [hk]; rfl)) hkj
theorem RepL.thaw (hM : Mem P base S η w) {k : Nat} {e : TypeId} {es zs : List D} (hk : es = [] ∨ S.ob k = some (.box e (flat es ++ zs))) (hz : 0 < szOf P e) (hw : ∀ d ∈ es, d.width = szOf P e) : ∀ {l : List D} {vs : List Value}, RepL P w η (Fix P S η) l vs → RepL P w η (Fix P (S.drop k) η) (thawL k es l) vs
  | [], vs, h => by simp only [thawL, RepL] at *; exact h
  | d :: l, vs, h => by
    simp only [thawL, RepL] at *
    obtain ⟨x, xs, h1, h2, h3⟩ := h
    exact ⟨x, xs, h1, Rep.thaw hM hk hz hw h2, RepL.thaw hM hk hz hw h3⟩
end
end
def ownOb (e : TypeId) (es zs : List D) (c : Nat) : Ob := bif Nat.beq c 0 then .row e 0 else .box e (flat es ++ zs)
theorem ownOb_box {e : TypeId} {es zs : List D} {c : Nat} (h : 0 < c) : ownOb e es zs c = .box e (flat es ++ zs) := by
  cases c with
  | zero => omega
  | succ c => rfl
theorem thaw_own {P : Program} {S : St} {k c : Nat} {e : TypeId} {es zs : List D} (hk : S.ob k = some (ownOb e es zs c)) (hc : es.length ≤ c) (hz : 0 < szOf P e) (hw : ∀ d ∈ es, d.width = szOf P e) {d d1 : D} (hd : d.thaw k es = d1) : Thaw P S d (S.drop k) d1 := fun base η w v hM hr => by
  refine ⟨η, goes_drop hM k, hd ▸ Rep.thaw (zs := zs) hM ?_ hz hw hr⟩
  rcases Nat.eq_zero_or_pos c with rfl | h
  · exact .inl (List.eq_nil_of_length_eq_zero (by omega))
  · rw [ownOb_box h] at hk
    exact .inr hk
theorem flat_cons (d : D) (l : List D) : flat (d :: l) = d.cells ++ flat l := by simp [flat]
theorem splice_flat : ∀ {es : List D} {zs : List D} {z : Nat} (i : Nat) {y : D}, i < es.length → (∀ d ∈ es, d.width = z) → y.width = z → splice (flat es ++ zs) (0 + i * z) y.cells = flat (es.set i y) ++ zs
  | [], _, _, i, _, h, _, _ => by simp at h
  | d :: es, zs, z, 0, y, _, hw, hy => by
    have h1 : d.cells.length = z := hw d (by simp)
    have h2 : y.cells.length = z := hy
    simp only [List.set_cons_zero, flat_cons, splice, Nat.zero_mul, Nat.add_zero, List.take_zero, List.nil_append, Nat.zero_add, h2, List.append_assoc]
    rw [List.drop_append, List.drop_of_length_le (by omega), h1, Nat.sub_self, List.drop_zero, List.nil_append]
  | d :: es, zs, z, i + 1, y, hi, hw, hy => by
    have h1 : d.cells.length = z := hw d (by simp)
    have ih := splice_flat (es := es) (zs := zs) (z := z) i (y := y) (by simpa using hi) (fun d' hd' => hw d' (by simp [hd'])) hy
    simp only [List.set_cons_succ, flat_cons, List.append_assoc]
    rw [← ih]
    simp only [splice, Nat.zero_add]
    have e1 : (i + 1) * z = z + i * z := by rw [Nat.add_mul]; omega
    rw [e1, List.take_append, List.drop_append, h1]
    rw [List.take_of_length_le (l := d.cells) (by omega), List.drop_of_length_le (l := d.cells) (by omega)]
    rw [show z + i * z - z = i * z by omega, show z + i * z + y.cells.length - z = i * z + y.cells.length by omega]
    simp [List.append_assoc]
theorem splice_flat' {es zs : List D} {z i : Nat} {y : D} (hi : i < es.length) (hw : ∀ d ∈ es, d.width = z) (hy : y.width = z) : List.take (i * z) (flat es ++ zs) ++ y.cells ++ List.drop (i * z + z) (flat es ++ zs) = flat (es.set i y) ++ zs := by
  have := splice_flat (zs := zs) i hi hw hy
  rw [← this]
  simp only [splice, Nat.zero_add]
  rw [show y.cells.length = z from hy]
theorem dquietR_of {P : Program} {f : Fm} {S : St} {ty : TypeId} {op : Op} {d : D} (h : dquiet P f S ty op fun d' => d' = d) : dquietR P f S ty op d := by
  obtain ⟨d', h1, rfl⟩ := dquiet_iff.1 h
  exact h1
end Go.Proofs.YtonncfminojejaaGreatDoor

namespace Go.Proofs.YtonncfminojejaaGreatDoor
open Go.RowKit

def SrcOk (S : St) (z : Nat) (d : D) (m : Nat) (news : List D) : Prop := match d with
  | .sl _ es => (∀ x ∈ es, x.width = z) ∧ m = es.length ∧ news = flat es
  | .win k off n _ => m = n ∧ (n = 0 ∧ news = [] ∨ ∃ t cs, S.ob k = some (.box t cs) ∧ off + n * z ≤ cs.length ∧ news = (cs.drop off).take (n * z))
  | _ => False
theorem srcOk_sl {S : St} {z : Nat} {o : Own} {es : List D} (h : ∀ x ∈ es, x.width = z) : SrcOk S z (.sl o es) es.length (flat es) := ⟨h, rfl, rfl⟩
theorem srcOk_win {S : St} {z k off n c : Nat} {t : TypeId} {cs : List D} (hk : S.ob k = some (.box t cs)) (h : off + n * z ≤ cs.length) : SrcOk S z (.win k off n c) n ((cs.drop off).take (n * z)) := ⟨rfl, .inr ⟨t, cs, hk, h, rfl⟩⟩
structure SrcAt (w : World) (z : Nat) (v : Value) (m : Nat) (us : List Value) : Prop where
  sl : ∃ A c, v = .slice A m c ∧ m ≤ 140737488355328 ∧ ((A = none ∧ m = 0) ∨ ∃ a, A = some a ∧ ∀ (j : Nat) u, us[j]? = some u → w.cell? (a.add j) = some u)
  len : us.length = m * z
  one : ∀ u ∈ us, u.oneCell' = true
section
variable {P : Program} {base : Nat} {S : St} {η : Names} {w : World}
theorem take_mul {α : Type} {l : List α} {q m z : Nat} (h : l.length = m * z) (hq : q ≤ m) : (l.take (q * z)).length = q * z := by
  rw [List.length_take, h]
  exact Nat.min_eq_left (Nat.mul_le_mul_right _ hq)
theorem SrcOk.length {z : Nat} {d : D} {m : Nat} {news : List D} (h : SrcOk S z d m news) : news.length = m * z := by
  cases d with
  | sl o es => obtain ⟨h1, rfl, rfl⟩ := h; exact dflat_length h1
  | win k off n c =>
    obtain ⟨rfl, ⟨h1, rfl⟩ | ⟨t, cs, _, h2, rfl⟩⟩ := h
    · rw [h1]; simp
    · rw [List.length_take, List.length_drop]; omega
  | _ => exact h.elim
theorem srcOk_at (hM : Mem P base S η w) {z : Nat} {d : D} {m : Nat} {news : List D} {v : Value} (hs : SrcOk S z d m news) (hr : Rep P w η (Fix P S η) d v) :
    ∃ us, SrcAt w z v m us ∧ RepL P w η (Fix P S η) news us := by
  cases d with
  | sl o es =>
    obtain ⟨h1, rfl, rfl⟩ := hs
    simp only [Rep] at hr
    obtain ⟨A, c, rfl, h2, h3, h4, h5⟩ := hr
    rcases Nat.eq_zero_or_pos es.length with h0 | h0
    · have : es = [] := List.eq_nil_of_length_eq_zero h0
      subst this
      refine ⟨[], ⟨⟨A, c, rfl, by simp, ?_⟩, by simp, fun u hu => by cases hu⟩, by simp [flat, RepL]⟩
      cases A with
      | none => exact .inl ⟨rfl, rfl⟩
      | some a => exact .inr ⟨a, rfl, fun j u hu => by simp at hu⟩
    · obtain ⟨b, o, z', rfl, hz', hr⟩ := h5 h0
      obtain ⟨k1, k2⟩ := RepE.flat hr
      obtain ⟨vs, g1, g2, g3, g4⟩ := k2.range
      exact ⟨vs, ⟨⟨_, c, rfl, h3, .inr ⟨_, rfl, fun j u hu => by rw [Addr.add_mid]; exact g2 j u hu⟩⟩, by rw [g1, dflat_length h1], g4⟩, g3⟩
  | win k off n c =>
    obtain ⟨rfl, h⟩ := hs
    obtain ⟨A, rfl, h2, h3, h4⟩ := hr.win_slice
    rcases h with ⟨rfl, rfl⟩ | ⟨t, cs, h5, h6, rfl⟩
    · refine ⟨[], ⟨⟨A, c, rfl, by simp, ?_⟩, by simp, fun u hu => by cases hu⟩, by simp [RepL]⟩
      cases A with
      | none => exact .inl ⟨rfl, rfl⟩
      | some a => exact .inr ⟨a, rfl, fun j u hu => by simp at hu⟩
    · obtain ⟨b, hb⟩ := hM.live k t cs h5
      rcases h4 with ⟨b', h4, rfl⟩ | ⟨h4, _⟩
      rotate_left
      · rw [hb] at h4; cases h4
      have : b' = b := by rw [hb] at h4; injection h4 with h4; injection h4 with h4; exact h4.symm
      subst this
      obtain ⟨vs, g1, g2, g3⟩ := hM.box k t cs b' h5 hb
      have hl := g2.length
      refine ⟨(vs.drop off).take (m * z), ⟨⟨_, c, rfl, h3, .inr ⟨_, rfl, fun j u hu => ?_⟩⟩, by rw [List.length_take, List.length_drop]; omega, fun u hu => g3 u (List.mem_of_mem_drop (List.mem_of_mem_take hu))⟩, (g2.drop off).take _⟩
      rw [Addr.add_mid]
      have : w.cell? ⟨b', off + j, none⟩ = vs.toArray[off + j]? := by simp [World.cell?, g1]
      rw [this]
      rw [List.getElem?_take] at hu
      split at hu
      · rw [List.getElem?_drop] at hu
        simpa using hu
      · cases hu
  | _ => exact hs.elim
theorem SrcAt.src {z : Nat} {v : Value} {m : Nat} {us : List Value} {tx : TypeId} (h : SrcAt w z v m us) (ht : (elT P tx).isSome = true) : Src P z tx v m us w := by
  obtain ⟨e', he'⟩ := Option.isSome_iff_exists.1 ht
  have hk := elT_spec he'
  obtain ⟨⟨A, c, rfl, _, ⟨rfl, rfl⟩ | ⟨a, rfl, ha⟩⟩, h2, h3⟩ := h
  · have : us = [] := List.eq_nil_of_length_eq_zero (by rw [h2]; simp)
    subst this
    exact Src.ofNil w hk c
  · exact Src.ofSlice w hk a m c us h2 ha h3
theorem SrcAt.first {z : Nat} {v : Value} {m : Nat} {us : List Value} (h : SrcAt w z v m us) {q : Nat} (hq : q ≤ m) : (Builtin.firstCells z q v).run P w = .ok (us.take (q * z)).toArray w := by
  obtain ⟨⟨A, c, rfl, _, ⟨rfl, rfl⟩ | ⟨a, rfl, ha⟩⟩, h2, h3⟩ := h
  · have : us = [] := List.eq_nil_of_length_eq_zero (by rw [h2]; simp)
    subst this
    simp [run_firstCells_none]
  · refine run_firstCells_some w z q a m c _ (take_mul h2 hq) fun j u hu => ha j u ?_
    rw [List.getElem?_take] at hu
    split at hu
    · exact hu
    · cases hu
theorem SrcAt.lenOf {z : Nat} {v : Value} {m : Nat} {us : List Value} (h : SrcAt w z v m us) (w' : World) : (Builtin.lenOf v).run P w' = .ok m w' := by
  obtain ⟨⟨A, c, rfl, _⟩, _⟩ := h
  rfl
theorem win_live (hM : Mem P base S η w) {k off n c : Nat} {t : TypeId} {cs : List D} {v : Value} (hk : S.ob k = some (.box t cs)) (hr : Rep P w η (Fix P S η) (.win k off n c) v) :
    ∃ b vs, v = .slice (some ⟨b, off, none⟩) n c ∧ η k = some (some b) ∧ w.heap[b]? = some (.cells vs.toArray t (0, 0)) ∧ RepL P w η (Fix P S η) cs vs ∧ (∀ x ∈ vs, x.oneCell' = true) ∧ n ≤ c ∧ n ≤ 140737488355328 := by
  obtain ⟨A, rfl, h2, h3, h4⟩ := hr.win_slice
  obtain ⟨b, hb⟩ := hM.live k t cs hk
  rcases h4 with ⟨b', h4, rfl⟩ | ⟨h4, _⟩
  · have : b' = b := by rw [hb] at h4; injection h4 with h4; injection h4 with h4; exact h4.symm
    subst this
    obtain ⟨vs, g1, g2, g3⟩ := hM.box k t cs b' hk hb
    exact ⟨b', vs, rfl, h4, g1, g2, g3, h2, h3⟩
  · rw [hb] at h4; cases h4
theorem splice_len {cs ds : List D} {off : Nat} (h : off + ds.length ≤ cs.length) : (splice cs off ds).length = cs.length := by
  simp only [splice, List.length_append, List.length_take, List.length_drop]
  omega
theorem one_splice {vs us : List Value} {off : Nat} (h : ∀ x ∈ vs, x.oneCell' = true) (k : ∀ x ∈ us, x.oneCell' = true) : ∀ x ∈ vs.take off ++ us ++ vs.drop (off + us.length), x.oneCell' = true := fun u hu => by
  rcases List.mem_append.1 hu with hu | hu
  · rcases List.mem_append.1 hu with hu | hu
    · exact h u (List.mem_of_mem_take hu)
    · exact k u hu
  · exact h u (List.mem_of_mem_drop hu)
theorem dcopy_win {t tx ty e : TypeId} (he : elT P t = some e) (hi : (P.info? e).isSome = true) {k off n c m : Nat} {bt : TypeId} {cs news : List D} {y : D} {K : D → St → Prop} (hk : S.ob k = some (.box bt cs)) (hs : SrcOk S (szOf P e) y m news) (hfit : off + Nat.min m n * szOf P e ≤ cs.length)
    {cs' : List D} (hcs : splice cs off (news.take (Nat.min m n * szOf P e)) = cs') (h : K (.v (.int .i64 (Nat.min m n : Nat))) (S.set k (.box bt cs'))) : dcopy P #[t, tx] ty (.win k off n c) y S K := by
  subst hcs
  intro base η w vs hM hr
  simp only [RepL] at hr
  obtain ⟨x1, _, rfl, r1, x2, _, rfl, r2, rfl⟩ := hr
  obtain ⟨us, s1, s2⟩ := srcOk_at hM hs r2
  obtain ⟨b, bs, rfl, hb, g1, g2, g3, g4, g5⟩ := win_live hM hk r1
  obtain ⟨i, hi⟩ := Option.isSome_iff_exists.1 hi
  have hsz : szOf P e = i.size := by simp [szOf, hi]
  have hu := elT_spec he
  have hl := g2.length
  have hul := take_mul s1.len (Nat.min_le_left m n)
  have hf := s1.first (P := P) (Nat.min_le_left m n)
  have h1 : ∀ u ∈ us.take (Nat.min m n * szOf P e), u.oneCell' = true := fun u hu => s1.one u (List.mem_of_mem_take hu)
  have hst := run_storeCells_at P b off bt (us.take (Nat.min m n * szOf P e)) 0 bs.toArray w g1 (by rw [Nat.add_zero, hul, List.size_toArray, hl]; exact hfit) h1
  simp only [Nat.add_zero] at hst
  have hnl := take_mul hs.length (Nat.min_le_left m n)
  have G := goes_set hM hk hb (splice_len (by rw [hnl]; exact hfit)) (splice_rep g2 (s2.take (Nat.min m n * szOf P e))) (one_splice g3 h1)
  refine ⟨_, _, η, .int .i64 (Nat.min m n : Nat), _, ?_, h, by simp only [Rep], G⟩
  rw [hsz] at hf hst ⊢
  simp [Builtin.copy_, run_underlying hu, s1.lenOf, sizeOf, typeInfo, hi, hf, hst, goInt]
def dappW (P : Program) (t tx ty : TypeId) (x y : D) (S : St) (K : D → St → Prop) : Prop := DRun P (fun vs => Builtin.append_ #[t, tx] ty vs.toArray) [x, y] S K
theorem dapp_atw {t tx ty : TypeId} {k off n c : Nat} {y : D} {K : D → St → Prop} : dapp P S t tx ty (.win k off n c) y K = dappW P t tx ty (.win k off n c) y S K := rfl
attribute [go_sem] dapp_atw
theorem dapp_nil {t tx ty e : TypeId} {own o2 : Own} {es es2 : List D} {K : D → St → Prop} (he : elT P t = some e) (h : dappW P t tx ty (.sl own es) (.sl o2 es2) S K) : dapp P S t tx ty (.sl own es) (.sl o2 es2) K := dapp_step he h
theorem dappend_new {t tx ty e : TypeId} (he : elT P t = some e) (hx : (elT P tx).isSome = true) (hz : zeroT P e = true) (hz2 : zeroOk P e = true) {n c m : Nat} {x : D} {olds news : List D} {y : D} {K : D → St → Prop} (ho : SrcOk S (szOf P e) x n olds) (hxc : ∀ k' off' n' c', x = .win k' off' n' c' → c' = c) (hxs : ∀ o es, x = .sl o es → o = .full ∧ c = es.length) (hs : SrcOk S (szOf P e) y m news)
    (hgrow : c < n + m) (hb : n + m ≤ 140737488355328) (hby : (n + m) * bytesOf P e ≤ 140737488355328)
    (h : ∀ (c' : Nat) (zs : List D), n + m ≤ c' → (olds ++ news ++ zs).length = c' * szOf P e → K (.win S.next 0 (n + m) c') (S.add (.box e (olds ++ news ++ zs)))) : dappW P t tx ty x y S K := by
  intro base η w vs hM hr
  simp only [RepL] at hr
  obtain ⟨x1, _, rfl, r1, x2, _, rfl, r2, rfl⟩ := hr
  obtain ⟨us, s1, s2⟩ := srcOk_at hM hs r2
  obtain ⟨os, o1, o2⟩ := srcOk_at hM ho r1
  obtain ⟨i, z, hi, hzr, hzs, hpos, hsz, hbz⟩ := zeroT_spec hz
  obtain ⟨z2, i2, hi2, hz2r, _, hz1, _⟩ := zeroOk_spec hz2
  rw [hi] at hi2
  injection hi2 with hi2
  subst hi2
  rw [hzr] at hz2r
  injection hz2r with hz2r
  subst hz2r
  have hu := elT_spec he
  have hel : (elT P t).isSome = true := by rw [he]; rfl
  obtain ⟨A, cc, e1, _, _⟩ := o1.sl
  have hcc : cc = c := by
    cases x with
    | win k' off' n' c' =>
      obtain ⟨A', e2, _⟩ := r1.win_slice
      rw [e1] at e2
      injection e2 with _ _ e2
      rw [e2]
      exact hxc _ _ _ _ rfl
    | sl o es =>
      obtain ⟨rfl, rfl⟩ := hxs _ _ rfl
      simp only [Rep, OwnAt] at r1
      obtain ⟨A', c', e2, _, _, rfl, _⟩ := r1
      rw [e1] at e2
      injection e2 with _ _ e2
    | _ => exact ho.elim
  subst hcc
  subst e1
  have hso := o1.src hel
  have hsn := s1.src hx
  rw [hsz] at hso hsn
  have hcold := hso.cellsD
  have hrun := run_append_grow_src (P := P) w t tx ty e i z hu hi hzr A n cc os hcold x2 m us hsn hgrow (by omega) (growslice_fits hgrow (by rw [← hbz]; exact hby))
  have G1 := goes_drew hM
  have hge := grownCap_ge w (n + m) cc e
  have G3 := G1.trans (goes_name G1.mem (.box e (olds ++ news ++ (Builtin.zeroCells z.cells (grownCap w (n + m) cc e - (n + m))).toList.map ofV)) ((os ++ us).toArray ++ Builtin.zeroCells z.cells (grownCap w (n + m) cc e - (n + m))) e
    (.inl ⟨_, os ++ us ++ (Builtin.zeroCells z.cells (grownCap w (n + m) cc e - (n + m))).toList, rfl, by apply Array.ext'; simp, RepL.append (RepL.append (G1.repL o2) (G1.repL s2)) (zeroD_rep _), fun u hu' => (List.mem_append.1 hu').elim (fun hh => (List.mem_append.1 hh).elim (o1.one u) (s1.one u)) fun hh => hz1 u (zeroCells_mem hh)⟩))
  refine ⟨_, _, _, _, _, hrun, h _ _ hge ?_, ?_, G3⟩
  · have e1 := size_zeroCells z.cells (grownCap w (n + m) cc e - (n + m))
    rw [← Array.length_toList] at e1
    rw [List.length_append, List.length_append, List.length_map, ho.length, hs.length, e1, hzs, hsz, ← Nat.add_mul, ← Nat.add_mul]
    congr 1
    omega
  · simp only [Rep]
    exact .inl ⟨w.heap.size, by simp only [Names.add, ↓reduceIte]; rfl, rfl, hge, hb⟩
/-! ### Owned slices -/
theorem DRun.thaw {run : List Value → Sem Value} {args : List D} {K : D → St → Prop} (h : DRun P run args S fun d S' => ∃ S1 d1, Thaw P S' d S1 d1 ∧ K d1 S1) : DRun P run args S K := fun base η w vs hM hr => by
  obtain ⟨d, S', η', v, w', h1, ⟨S1, d1, h2, h3⟩, h4, h5⟩ := h base η w vs hM hr
  obtain ⟨η2, k1, k2⟩ := h2 base η' w' v h5.mem h4
  exact ⟨d1, S1, η2, v, w', h1, h3, k2, h5.trans k1⟩
theorem DCalls.thaw {g : FuncId} {args : List D} {K : D → St → Prop} (h : DCalls P g args S fun d S' => ∃ S1 d1, Thaw P S' d S1 d1 ∧ K d1 S1) : DCalls P g args S K := fun base η w vs hM hr => by
  rcases h base η w vs hM hr with ⟨h1, h2⟩ | ⟨d, S', η', v, w', h1, ⟨S1, d1, h2, h3⟩, h4, h5⟩
  · refine .inl ⟨h1, h2.mono fun e w' ⟨d, S', η', v, ⟨S1, d1, h2, h3⟩, he, h4, h5⟩ => ?_⟩
    obtain ⟨η2, k1, k2⟩ := h2 base η' w' v h5.mem h4
    exact ⟨d1, S1, η2, v, h3, he, k2, h5.trans k1⟩
  · obtain ⟨η2, k1, k2⟩ := h2 base η' w' v h5.mem h4
    exact .inr ⟨d1, S1, η2, v, w', h1, h3, k2, h5.trans k1⟩
theorem thaw_nil (e : TypeId) : Thaw P S (.sl .full []) (S.add (.row e 0)) (.win S.next 0 0 0) := fun base η w v hM hr => by
  simp only [Rep, OwnAt] at hr
  obtain ⟨A, c, rfl, _, _, rfl, _⟩ := hr
  refine ⟨_, goes_bare hM e 0, ?_⟩
  unfold Rep
  exact .inr ⟨by simp [Names.add], rfl, rfl, A, rfl⟩
theorem flat_append (l m : List D) : flat (l ++ m) = flat l ++ flat m := by simp [flat]
theorem ownOb_len {es zs : List D} {c z : Nat} (hw : ∀ d ∈ es, d.width = z) (hz : 0 < z) (h : (flat es ++ zs).length = c * z) : es.length ≤ c := by
  rw [List.length_append, dflat_length hw] at h
  rcases Nat.lt_or_ge c es.length with h' | h'
  · have : (c + 1) * z ≤ es.length * z := Nat.mul_le_mul_right _ h'
    rw [Nat.add_mul] at this
    omega
  · exact h'
theorem zeroT_pos {e : TypeId} (h : zeroT P e = true) : 0 < szOf P e ∧ (P.info? e).isSome = true := by
  obtain ⟨i, z, hi, _, _, hp, hs, _⟩ := zeroT_spec h
  exact ⟨by omega, by rw [hi]; rfl⟩
theorem dappend_fresh {t tx ty e : TypeId} (he : elT P t = some e) (hx : (elT P tx).isSome = true) (hz : zeroT P e = true) (hz2 : zeroOk P e = true) {m : Nat} {es2 : List D} {y : D} {K : D → St → Prop} (hs : SrcOk S (szOf P e) y m (flat es2)) (hm : m = es2.length)
    (hb : es2.length ≤ 140737488355328) (hby : es2.length * bytesOf P e ≤ 140737488355328)
    (h : ∀ (c' : Nat) (zs' : List D), es2.length ≤ c' → (flat es2 ++ zs').length = c' * szOf P e → K (.win S.next 0 es2.length c') (S.add (ownOb e es2 zs' c'))) : dappW P t tx ty (.sl .full []) y S K := by
  subst hm
  obtain ⟨hzp, hi⟩ := zeroT_pos hz
  rcases Nat.eq_zero_or_pos es2.length with h0 | hpos
  · have e2 : es2 = [] := List.eq_nil_of_length_eq_zero h0
    subst e2
    refine DRun.thaw ?_
    intro base η w vs hM hr
    simp only [RepL] at hr
    obtain ⟨x1, _, rfl, r1, x2, _, rfl, r2, rfl⟩ := hr
    obtain ⟨us, s1, s2⟩ := srcOk_at hM hs r2
    have hus : us = [] := List.eq_nil_of_length_eq_zero (by rw [s1.len]; simp)
    subst hus
    obtain ⟨i, hi⟩ := Option.isSome_iff_exists.1 hi
    have hsz : szOf P e = i.size := by simp [szOf, hi]
    have hsrc := s1.src hx
    rw [hsz] at hsrc
    have r1' := r1
    simp only [Rep, OwnAt] at r1'
    obtain ⟨A, c, rfl, _, _, rfl, _⟩ := r1'
    refine ⟨_, S, η, _, w, run_append_nothing w t tx ty e i (elT_spec he) hi A _ _ (Nat.le_refl _) x2 hsrc, ?_, r1, Goes.refl hM⟩
    exact ⟨_, _, thaw_nil e, h 0 [] (Nat.le_refl _) (by simp [flat])⟩
  · refine dappend_new he hx hz hz2 (n := 0) (c := 0) (olds := []) ⟨(fun _ hx => by cases hx), rfl, rfl⟩ (fun _ _ _ _ e => by cases e) (fun _ _ e => by injection e with e1 e2; subst e1 e2; exact ⟨rfl, rfl⟩) hs (by omega) (by omega) (by rw [Nat.zero_add]; exact hby) fun c' zs hc' hl' => ?_
    simp only [List.nil_append, Nat.zero_add] at hc' hl' ⊢
    have := h c' zs hc' hl'
    rw [ownOb_box (by omega)] at this
    exact this
end
end Go.Proofs.YtonncfminojejaaGreatDoor

namespace Go.Proofs.YtonncfminojejaaGreatDoor
open Go.RowKit

section
variable {P : Program} {base : Nat} {S : St} {η : Names} {w : World}
theorem dclear_win {t ty e : TypeId} (he : elT P t = some e) (hz : zeroT P e = true) (hz2 : zeroOk P e = true) {k off n c : Nat} {bt : TypeId} {cs : List D} {K : D → St → Prop} (hk : S.ob k = some (.box bt cs)) (hfit : off + n * szOf P e ≤ cs.length)
    (h : ∀ zs : List D, zs.length = n * szOf P e → K (.tup []) (S.set k (.box bt (splice cs off zs)))) : dclear P #[t] ty (.win k off n c) S K := by
  intro base η w vs hM hr
  simp only [RepL] at hr
  obtain ⟨x1, _, rfl, r1, rfl⟩ := hr
  obtain ⟨b, bs, rfl, hb, g1, g2, g3, g4, g5⟩ := win_live hM hk r1
  obtain ⟨i, z, hi, hzr, hzs, hpos, hsz, hbz⟩ := zeroT_spec hz
  obtain ⟨z2, i2, hi2, hz2r, _, hz1, _⟩ := zeroOk_spec hz2
  rw [hi] at hi2
  injection hi2 with hi2
  subst hi2
  rw [hzr] at hz2r
  injection hz2r with hz2r
  subst hz2r
  have hu := elT_spec he
  have hl := g2.length
  have e1 := size_zeroCells z.cells n
  rw [← Array.length_toList, hzs, ← hsz] at e1
  have h1 : ∀ u ∈ (Builtin.zeroCells z.cells n).toList, u.oneCell' = true := fun u hu => hz1 u (zeroCells_mem hu)
  have hst := run_storeCells_at P b off bt (Builtin.zeroCells z.cells n).toList 0 bs.toArray w g1 (by rw [Nat.add_zero, e1, List.size_toArray, hl]; exact hfit) h1
  simp only [Nat.add_zero] at hst
  have hml : ((Builtin.zeroCells z.cells n).toList.map ofV).length = n * szOf P e := by rw [List.length_map, e1]
  have G := goes_set hM hk hb (splice_len (off := off) (ds := (Builtin.zeroCells z.cells n).toList.map ofV) (by rw [hml]; exact hfit)) (splice_rep g2 (zeroD_rep _)) (one_splice g3 h1)
  refine ⟨_, _, η, .tuple #[], _, ?_, h _ hml, by simp only [Rep, RepL]; exact ⟨[], rfl, rfl⟩, G⟩
  cases n with
  | zero =>
    have : Builtin.zeroCells z.cells 0 = #[] := by simp [Builtin.zeroCells]
    simp only [this, List.append_nil, List.length_nil, Nat.add_zero, List.take_append_drop]
    have e0 : w.setRow b bs.toArray = w := setRow_self w b bs.toArray bt (0, 0) g1
    simp [Builtin.clear_, run_underlying hu, e0]
  | succ n => simp [Builtin.clear_, run_underlying hu, zeroValue, typeInfo, hi, hzr, hst]
theorem splice_at {B C X : List D} {o : Nat} (ho : o = B.length) : splice (B ++ C) o X = B ++ X ++ C.drop X.length := by
  subst ho
  unfold splice
  rw [List.take_append_of_le_length (Nat.le_refl _), List.take_of_length_le (Nat.le_refl _), List.drop_append, List.drop_of_length_le (by omega), List.nil_append]
  congr 2
  omega
end
end Go.Proofs.YtonncfminojejaaGreatDoor

namespace Go.Proofs.YtonncfminojejaaGreatDoor
open Go.RowKit
def DQ.inl (P : Program) (rs : List ResultVar) (K : D → St → Prop) : DQ
  | .exit _, _, _ => False
  | _, f, S' => dresL P f S' rs fun ds => K (one ds) S'
theorem dcalls_inline {P : Program} (hm : P.follows .mixedOrders = true) {g : FuncId} {fn : Func} {c : Code} (hf : P.funcs[g]? = some fn) (hb : fn.body = some c) (hent : ∀ vs w, (callFunc g vs).run P w = .ok (.enter g vs) w) {rs : List ResultVar} (hrs : fn.results.toList = rs) {args : List D} (hok : (codeOk fn.ntmps c && fn.results.all (resOk fn.ntmps) && Nat.ble args.length fn.ntmps) = true) {S : St} {K : D → St → Prop}
    (h : S.WF → dwp P c (DQ.inl P rs K) (argF args) S) : DCalls P g args S K := by
  subst hrs
  intro base η w vs hM hr
  refine .inl ⟨hent _ _, ?_⟩
  simp only [Bool.and_eq_true] at hok
  obtain ⟨⟨hok1, hok2⟩, hok3⟩ := hok
  have hlen : args.length ≤ fn.ntmps := Nat.le_of_ble_eq_true hok3
  have hl := hr.length
  have hsz : (vs.toArray ++ Array.replicate (fn.ntmps - vs.toArray.size) undef).size = fn.ntmps := by simp; omega
  refine calls_of_wp hf hb ?_
  refine dwp_sound hm c (a := { tmps := vs.toArray ++ Array.replicate (fn.ntmps - vs.toArray.size) undef, defers := [] }) (by rw [hsz]; exact hok1) hM (fun t ht => ?_) (h hM.fresh) fun e f' S' η' w' a' k1 k2 k3 k4 k5 => ?_
  · rw [hsz] at ht
    simp only [argF]
    by_cases h1 : t < vs.length
    · obtain ⟨x, hx, hr'⟩ := hr.get t (List.getElem?_eq_getElem (by omega : t < args.length))
      have e1 : args.getD t undefD = args[t] := by rw [List.getD_eq_getElem?_getD, List.getElem?_eq_getElem (by omega : t < args.length)]; rfl
      have e2 : (vs.toArray ++ Array.replicate (fn.ntmps - vs.toArray.size) undef).getD t undef = x := by
        rw [Array.getD_eq_getD_getElem?, Array.getElem?_append_left (by simpa using h1)]
        simp [hx]
      rw [e1, e2]
      exact hr'
    · have e1 : args.getD t undefD = undefD := by rw [List.getD_eq_getElem?_getD, List.getElem?_eq_none (by omega)]; rfl
      have e2 : (vs.toArray ++ Array.replicate (fn.ntmps - vs.toArray.size) undef).getD t undef = undef := by
        rw [Array.getD_eq_getD_getElem?, Array.getElem?_append_right (by simpa using h1)]
        rw [Array.getElem?_replicate]
        split <;> rfl
      rw [e1, e2]
      simp only [Rep, RepL]
      exact ⟨[], rfl, rfl⟩
  · have hsz' : a'.tmps.size = fn.ntmps := by rw [k4]; exact hsz
    have hd' : a'.defers = [] := k5
    have fin : dresL P f' S' fn.results.toList (fun ds => K (one ds) S') → a'.defers = [] ∧ ∃ v, (results fn a'.tmps).run P w' = .ok v w' ∧ ∃ d S'' η'' u, K d S'' ∧ Ending.returned v = .returned u ∧ Rep P w' η'' (Fix P S'' η'') d u ∧ Goes P base S η w S'' η'' w' := fun hres => by
      obtain ⟨ds, v, hk, q7, q8⟩ := results_sound k2.mem k3 (by rw [hsz']; exact hok2) hres
      exact ⟨hd', v, q8, one ds, S', η', v, hk, rfl, q7, k2⟩
    cases e with
    | normal => exact fin k1
    | ret => exact fin k1
    | exit i => exact k1.elim
section
variable {P : Program} {S : St} {f : Fm} {K : D → St → Prop}
theorem inl_ret (t : Tmp) (S' : St) : DQ.inl P [.tmp t] K .ret f S' = K (f t) S' := by simp [DQ.inl, dresL, dres, onVal, one]
theorem inl_normal (t : Tmp) (S' : St) : DQ.inl P [.tmp t] K .normal f S' = K (f t) S' := by simp [DQ.inl, dresL, dres, onVal, one]
theorem inl_ret2 (t u : Tmp) (S' : St) : DQ.inl P [.tmp t, .tmp u] K .ret f S' = K (.tup [f t, f u]) S' := by simp [DQ.inl, dresL, dres, onVal, one]
theorem inl_normal2 (t u : Tmp) (S' : St) : DQ.inl P [.tmp t, .tmp u] K .normal f S' = K (.tup [f t, f u]) S' := by simp [DQ.inl, dresL, dres, onVal, one]
theorem inl_ret0 (S' : St) : DQ.inl P [] K .ret f S' = K undefD S' := by simp [DQ.inl, dresL, one]
theorem inl_normal0 (S' : St) : DQ.inl P [] K .normal f S' = K undefD S' := by simp [DQ.inl, dresL, one]
end
theorem inl_cell_normal {P : Program} {f : Fm} {K : D → St → Prop} (x : Tmp) (t : TypeId) (S' : St) : DQ.inl P [.cell x t] K .normal f S' = dcellR P S' t (f x) (fun r => K r S') := onVal_cell x t _
theorem inl_cell_ret {P : Program} {f : Fm} {K : D → St → Prop} (x : Tmp) (t : TypeId) (S' : St) : DQ.inl P [.cell x t] K .ret f S' = dcellR P S' t (f x) (fun r => K r S') := onVal_cell x t _
attribute [go_sem] inl_cell_normal inl_cell_ret
attribute [go_sem] inl_ret inl_normal inl_ret2 inl_normal2 inl_ret0 inl_normal0
def loopN (P : Program) (c : Code) (Q : DQ) : Nat → Fm → St → Prop
  | 0, _, _ => False
  | n + 1, f, S => dwp P c (DQ.then (loopN P c Q n) Q) f S
theorem dloop_fuel {P : Program} {c : Code} {Q : DQ} {f : Fm} {S : St} (n : Nat) (hS : S.WF) (hc : wrOk (fun _ => true) c = true) (h : loopN P c Q n f S) : DLoop (dwp P c) Q f S := by
  refine dloop_down (fun _ => true) hc hS (fun m g T => loopN P c Q m g T) n h fun m g T hT _ hI => ?_
  cases m with
  | zero => exact hI.elim
  | succ m =>
    refine dwp_mono c (fun e f2 S2 hq => ?_) hI
    cases e with
    | normal => exact ⟨m, S2.ob, by omega, fun _ _ h => h, hq⟩
    | exit i => exact hq
    | ret => exact hq
theorem loopN_eq {P : Program} {c : Code} {Q : DQ} {f : Fm} {S : St} (n : Nat) : loopN P c Q (n + 1) f S = dwp P c (DQ.then (loopN P c Q n) Q) f S := Eq.trans (Eq.refl _) (Eq.refl _)
end Go.Proofs.YtonncfminojejaaGreatDoor

namespace Go.Proofs.YtonncfminojejaaGreatDoor
open Go.RowKit
abbrev H32 := {l : List UInt8 // l.length = 32}
def encH (h : H32) : D := .agg (h.1.map bD)
abbrev DMk := Int × H32
theorem cells_encH (h : H32) : (encH h).cells = h.1.map bD := rfl
theorem len_encH (h : H32) : (h.1.map bD).length = 32 := by simp [h.2]
theorem width_encH (h : H32) : (encH h).width = 32 := len_encH h
theorem okCell_encH (h : H32) : (encH h).okCell = true := rfl
theorem take_hash (h : H32) : (h.1.map bD).take 32 = h.1.map bD := List.take_of_length_le (by rw [len_encH]; omega)
theorem agg_hash (h : H32) : D.agg (h.1.map bD) = encH h := rfl
def bV (b : UInt8) : Value := .int .u8 b.toNat
theorem vals_bytes : ∀ l : List UInt8, vals (l.map bD) = some (l.map bV)
  | [] => rfl
  | b :: l => by simp [vals, bD, bV, vals_bytes l]
theorem valsEq_bytes : ∀ a b : List UInt8, valsEq (a.map bV) (b.map bV) = decide (a = b)
  | [], [] => by simp [valsEq]
  | [], _ :: _ => by simp [valsEq]
  | _ :: _, [] => by simp [valsEq]
  | x :: a, y :: b => by
    have ih := valsEq_bytes a b
    simp only [List.map_cons, valsEq, ih, bV, cellEq]
    rw [Bool.eq_iff_iff]
    simp [← UInt8.toNat_inj]
    omega
theorem valsEq_hash (a b : H32) : valsEq (a.1.map bV) (b.1.map bV) = decide (a = b) := by
  rw [valsEq_bytes]; congr 1; rw [Subtype.ext_iff]
theorem bV_cell : bV = Go.Extern.Stop.cell := rfl
theorem equalIn_hash (d : Nat) (a b : H32) (w : World) : (Op.equalIn (d + 2) 45 (.agg (a.1.map bV).toArray) (.agg (b.1.map bV).toArray)).run Tryz.prog w = .ok (decide (a = b)) w := by
  rw [bV_cell, run_equalIn_bytes (P := Tryz.prog) w d 45 5 32 Tryz.underlying45 Tryz.underlying5 (fun w => by kernel_rfl) a.1 b.1 a.2 b.2]
  congr 1
  rw [Bool.eq_iff_iff]
  simp [Subtype.ext_iff]
theorem eqOk_hash {x y : Operand} (a b : H32) : EqOk Tryz.prog .eql 45 x y (a.1.map bV) (b.1.map bV) (decide (a = b)) ∧ EqOk Tryz.prog .neq 45 x y (a.1.map bV) (b.1.map bV) (!decide (a = b)) := by
  constructor <;> intro w
  · rw [Sem.run_bind, run_eqGuard_agg w _ _ _ _ _ _ (by kernel_rfl), Result.andThen_ok, run_eql_struct, equalIn_hash 9998 a b w, Result.andThen_ok]
  · rw [Sem.run_bind, run_eqGuard_agg w _ _ _ _ _ _ (by kernel_rfl), Result.andThen_ok, run_neq_struct, equalIn_hash 9998 a b w, Result.andThen_ok]
section
variable {x y : Operand} {K : D → Prop} {K' : D → St → Prop} {S : St}
theorem bin_eqH (a b : H32) : dbin Tryz.prog .eql 45 x y (encH a) (encH b) = some (EqOk Tryz.prog .eql 45 x y (a.1.map bV) (b.1.map bV) (decide (a = b)), .v (.bool (decide (a = b)))) := by
  simp only [dbin, encH, vals_bytes, dbinA, valsEq_hash]
theorem bin_neH (a b : H32) : dbin Tryz.prog .neq 45 x y (encH a) (encH b) = some (EqOk Tryz.prog .neq 45 x y (a.1.map bV) (b.1.map bV) (!decide (a = b)), .v (.bool (!decide (a = b)))) := by
  simp only [dbin, encH, vals_bytes, dbinA, valsEq_hash]
theorem onVal_eqH (a b : H32) : onVal (dbin Tryz.prog .eql 45 x y (encH a) (encH b)) K = K (.v (.bool (decide (a = b)))) := by
  rw [bin_eqH, onVal_some]; exact propext ⟨fun h => h.2, fun h => ⟨(eqOk_hash a b).1, h⟩⟩
theorem onVal_neH (a b : H32) : onVal (dbin Tryz.prog .neq 45 x y (encH a) (encH b)) K = K (.v (.bool (!decide (a = b)))) := by
  rw [bin_neH, onVal_some]; exact propext ⟨fun h => h.2, fun h => ⟨(eqOk_hash a b).2, h⟩⟩
theorem onValS_eqH (a b : H32) : onValS (dbin Tryz.prog .eql 45 x y (encH a) (encH b)) K' S = K' (.v (.bool (decide (a = b)))) S := by
  rw [bin_eqH, onValS_some]; exact propext ⟨fun h => h.2, fun h => ⟨(eqOk_hash a b).1, h⟩⟩
theorem onValS_neH (a b : H32) : onValS (dbin Tryz.prog .neq 45 x y (encH a) (encH b)) K' S = K' (.v (.bool (!decide (a = b)))) S := by
  rw [bin_neH, onValS_some]; exact propext ⟨fun h => h.2, fun h => ⟨(eqOk_hash a b).2, h⟩⟩
end
attribute [go_sem] onVal_eqH onVal_neH onValS_eqH onValS_neH cells_encH take_hash agg_hash len_encH width_encH okCell_encH
end Go.Proofs.YtonncfminojejaaGreatDoor

namespace Go.Proofs.YtonncfminojejaaGreatDoor
open Go.RowKit
theorem dat_of_dwpL {P : Program} (hm : P.follows .mixedOrders = true) {g : FuncId} {fn : Func} {c : Code} (hf : P.funcs[g]? = some fn) (hb : fn.body = some c) (hent : ∀ vs w, (callFunc g vs).run P w = .ok (.enter g vs) w) {rs : List ResultVar} (hrs : fn.results.toList = rs) {args : List D} (hok : (codeOk fn.ntmps c && fn.results.all (resOk fn.ntmps) && Nat.ble args.length fn.ntmps) = true) {d : D} (hc : d.closed) {S : St}
    (h : S.WF → dwp P c (DQ.pfin P rs S d) (argF args) S) : DAt P g args S d :=
  dcalls_of_dwp hm hf hb hent hrs hok fun hw => dwp_mono c (pfin_fin hw hc) (h hw)
theorem go_at {P : Program} {g : FuncId} {args : List D} {S : St} {d : D} {K : D → St → Prop} (h : DAt P g args S d) (k : K d S) : DCalls P g args S K := h.mono fun _ _ hq => by rw [hq.1, hq.2]; exact k
def cmpI (a b : Int) : Int := if a < b then -1 else if b < a then 1 else 0
def cmpL : List UInt8 → List UInt8 → Int
  | [], [] => 0
  | [], _ :: _ => -1
  | _ :: _, [] => 1
  | x :: a, y :: b => if x = y then cmpL a b else cmpI x.toNat y.toNat
def cmpH (a b : H32) : Int := cmpL a.1 b.1
theorem ite_gt (a b : Int) : decide (a > b) = decide (b < a) := rfl
section
set_option maxRecDepth 200000
theorem nanB_d (a : UInt8) : DPure Tryz.prog 104 [bD a] (.v (.bool false)) := by
  refine dpure_of_dwp mixed Tryz.func104 rfl (fun _ _ => by kernel_rfl) (rs := [.tmp 2]) rfl (by kernel_rfl) trivial (fun S hS => ?_)
  (simp (disch := first | decide | omega | (simp only [nx]; first | done | omega)) only [go_sem, bD, bne_self_eq_false]; (repeat with_reducible refine aI ?_))
  refine ⟨?_, (by (repeat' first | assumption | exact St.Sub.refl _ | exact RowOk.sub (by assumption) (by assumption) | refine St.Sub.trans ?_ (RowOk.sub (by assumption) (by assumption)) | refine St.Sub.add ?_ ?_ _ | refine St.Sub.set ?_ ?_ ?_ _ | refine St.Sub.keep ?_ ?_ | refine St.WF.leave ?_ _ | refine St.WF.add ?_ _ | refine St.WF.set ?_ ?_ _ | refine St.WF.grow ?_ _ _ _ | refine St.WF.keep ?_ ?_ | (first | omega | (simp only [RowOk.lo, nx]; first | done | omega))))⟩
  rfl
theorem cmpB_d (a b : UInt8) : DPure Tryz.prog 93 [bD a, bD b] (.v (.int .i64 (cmpI a.toNat b.toNat))) := by
  refine dpure_of_dwp mixed Tryz.func93 rfl (fun _ _ => by kernel_rfl) (rs := [.tmp 4]) rfl (by kernel_rfl) trivial (fun S hS => ?_)
  (simp (disch := first | decide | omega | (simp only [nx]; first | done | omega)) only [go_sem]; (repeat with_reducible refine aI ?_))
  refine DCalls.of_pure (nanB_d a) ?_
  (simp (disch := first | decide | omega | (simp only [nx]; first | done | omega)) only [go_sem]; (repeat with_reducible refine aI ?_))
  refine DCalls.of_pure (nanB_d b) ?_
  (simp (disch := first | decide | omega | (simp only [nx]; first | done | omega)) only [go_sem, bD]; (repeat with_reducible refine aI ?_))
  by_cases h1 : (a.toNat : Int) < b.toNat
  · have b1 : decide ((a.toNat : Int) < b.toNat) = true := decide_eq_true h1
    (simp (disch := first | decide | omega | (simp only [nx]; first | done | omega)) only [go_sem, b1, bD]; (repeat with_reducible refine aI ?_))
    refine ⟨?_, (by (repeat' first | assumption | exact St.Sub.refl _ | exact RowOk.sub (by assumption) (by assumption) | refine St.Sub.trans ?_ (RowOk.sub (by assumption) (by assumption)) | refine St.Sub.add ?_ ?_ _ | refine St.Sub.set ?_ ?_ ?_ _ | refine St.Sub.keep ?_ ?_ | refine St.WF.leave ?_ _ | refine St.WF.add ?_ _ | refine St.WF.set ?_ ?_ _ | refine St.WF.grow ?_ _ _ _ | refine St.WF.keep ?_ ?_ | (first | omega | (simp only [RowOk.lo, nx]; first | done | omega))))⟩
    simp only [D.frz, cmpI, if_pos h1]
  · have b1 : decide ((a.toNat : Int) < b.toNat) = false := decide_eq_false h1
    by_cases h2 : (b.toNat : Int) < a.toNat
    · have b2 : decide ((b.toNat : Int) < a.toNat) = true := decide_eq_true h2
      (simp (disch := first | decide | omega | (simp only [nx]; first | done | omega)) only [go_sem, b1, b2, ite_gt, bD]; (repeat with_reducible refine aI ?_))
      refine ⟨?_, (by (repeat' first | assumption | exact St.Sub.refl _ | exact RowOk.sub (by assumption) (by assumption) | refine St.Sub.trans ?_ (RowOk.sub (by assumption) (by assumption)) | refine St.Sub.add ?_ ?_ _ | refine St.Sub.set ?_ ?_ ?_ _ | refine St.Sub.keep ?_ ?_ | refine St.WF.leave ?_ _ | refine St.WF.add ?_ _ | refine St.WF.set ?_ ?_ _ | refine St.WF.grow ?_ _ _ _ | refine St.WF.keep ?_ ?_ | (first | omega | (simp only [RowOk.lo, nx]; first | done | omega))))⟩
      simp only [D.frz, cmpI, if_neg h1, if_pos h2]
    · have b2 : decide ((b.toNat : Int) < a.toNat) = false := decide_eq_false h2
      (simp (disch := first | decide | omega | (simp only [nx]; first | done | omega)) only [go_sem, b1, b2, ite_gt, bD]; (repeat with_reducible refine aI ?_))
      refine ⟨?_, (by (repeat' first | assumption | exact St.Sub.refl _ | exact RowOk.sub (by assumption) (by assumption) | refine St.Sub.trans ?_ (RowOk.sub (by assumption) (by assumption)) | refine St.Sub.add ?_ ?_ _ | refine St.Sub.set ?_ ?_ ?_ _ | refine St.Sub.keep ?_ ?_ | refine St.WF.leave ?_ _ | refine St.WF.add ?_ _ | refine St.WF.set ?_ ?_ _ | refine St.WF.grow ?_ _ _ _ | refine St.WF.keep ?_ ?_ | (first | omega | (simp only [RowOk.lo, nx]; first | done | omega))))⟩
      simp only [D.frz, cmpI, if_neg h1, if_neg h2]
end
end Go.Proofs.YtonncfminojejaaGreatDoor

namespace Go.Proofs.YtonncfminojejaaGreatDoor
open Go.RowKit
structure WinB (S : St) (k off : Nat) (l : List UInt8) : Prop where
  ex : ∃ t cs, S.ob k = some (.box t cs) ∧ ∀ i (h : i < l.length), off + i < cs.length ∧ cs.getD (off + i) undefD = bD l[i]
theorem cmpL_drop (l m : List UInt8) (i : Nat) (h1 : i < l.length) (h2 : i < m.length) : cmpL (l.drop i) (m.drop i) = if l[i] = m[i] then cmpL (l.drop (i + 1)) (m.drop (i + 1)) else cmpI l[i].toNat m[i].toNat := by
  rw [List.drop_eq_getElem_cons h1, List.drop_eq_getElem_cons h2, cmpL]
theorem cmpI_zero (a b : UInt8) : (cmpI a.toNat b.toNat != 0) = !decide (a = b) := by
  unfold cmpI
  have he : a = b ↔ a.toNat = b.toNat := UInt8.toNat_inj.symm
  by_cases h1 : a.toNat < b.toNat
  · have : (a.toNat : Int) < b.toNat := by omega
    rw [if_pos this, decide_eq_false (fun h => by rw [he] at h; omega)]; rfl
  · by_cases h2 : b.toNat < a.toNat
    · have h3 : (b.toNat : Int) < a.toNat := by omega
      rw [if_neg (by omega), if_pos h3, decide_eq_false (fun h => by rw [he] at h; omega)]; rfl
    · rw [if_neg (by omega), if_neg (by omega), decide_eq_true (he.2 (by omega))]; rfl
section
set_option maxRecDepth 200000
set_option maxHeartbeats 4000000
theorem cmpL_at {S : St} {k off c k2 off2 c2 : Nat} {l m : List UInt8} (hl : WinB S k off l) (hm : WinB S k2 off2 m) (hll : l.length ≤ 1000000) (hml : m.length ≤ 1000000) : DAt Tryz.prog 84 [.win k off l.length c, .win k2 off2 m.length c2] S (.v (.int .i64 (cmpL l m))) := by
  refine dat_of_dwpL mixed Tryz.func84 rfl (fun _ _ => by kernel_rfl) (rs := [.tmp 4]) rfl (by kernel_rfl) (by trivial) (fun hS => ?_)
  obtain ⟨t1, cs1, hk1, hb1⟩ := hl.ex
  obtain ⟨t2, cs2, hk2, hb2⟩ := hm.ex
  (simp (disch := first | decide | omega | (simp only [nx]; first | done | omega)) only [go_sem]; (repeat with_reducible refine aI ?_))
  (refine dloop_st (fun t => List.contains [4, 5, 6, 7, 8, 11, 12, 13, 14, 15, 16, 17, 18, 19, 20, 21, 22, 23, 24, 25, 26, 27, 28, 29, 30] t) (by kernel_rfl) ?_ (l.length) (fun i f => i ≤ l.length ∧ f 11 = .v (.int .i64 (i : Nat)) ∧ (i ≤ m.length ∧ cmpL l m = cmpL (l.drop i) (m.drop i))) ?_ ?_; (exact (by (repeat' first | assumption | refine St.WF.leave ?_ _ | refine St.WF.add ?_ _ | refine St.WF.set ?_ ?_ _ | refine St.WF.grow ?_ _ _ _ | refine St.WF.keep ?_ ?_ | (first | omega | (simp only [RowOk.lo, nx]; first | done | omega))))); (exact ⟨(by omega), (by (first | (simp (disch := first | decide | omega | (simp only [nx]; first | done | omega)) only [go_sem]; first | done | rfl) | rfl)), (⟨Nat.zero_le _, rfl⟩)⟩); intro i g tn hn hT hg hI; obtain ⟨le, q11, hc⟩ := hI; have q0 := hg 0 rfl; have q1 := hg 1 rfl; have q9 := hg 9 rfl; have q10 := hg 10 rfl; simp (disch := first | decide | omega | (simp only [nx]; first | done | omega)) only [go_sem] at q0 q1 q9 q10; clear hg; have hn' := hn; try simp only [add_next, set_next, grow_next, leave_next, drop_next] at hn')
  obtain ⟨him, hce⟩ := hc
  by_cases hlt : i < l.length
  · have b1 : decide ((i : Int) < (l.length : Int)) = true := by simp; omega
    have w1 : IntKind.i64.wrap ((i : Int) + 1) = ((i + 1 : Nat) : Int) := IntWalk.i64_in _ ⟨by omega, by omega⟩
    obtain ⟨x1, x2⟩ := hb1 i hlt
    by_cases hmt : i < m.length
    · have b2 : decide ((i : Int) ≥ (m.length : Int)) = false := by simp; omega
      obtain ⟨y1, y2⟩ := hb2 i hmt
      rw [cmpL_drop l m i hlt hmt] at hce
      (simp (disch := first | decide | omega | (simp only [nx]; first | done | omega)) only [go_sem, q0, q1, q9, q10, q11, b1, b2, hk1, hk2, x2, y2, Nat.mul_one]; (repeat with_reducible refine aI ?_))
      refine DCalls.of_pure (cmpB_d l[i] m[i]) ?_
      (simp (disch := first | decide | omega | (simp only [nx]; first | done | omega)) only [go_sem, cmpI_zero]; (repeat with_reducible refine aI ?_))
      by_cases he : l[i] = m[i]
      · have b3 : (!decide (l[i] = m[i])) = false := by simp [he]
        rw [if_pos he] at hce
        (simp (disch := first | decide | omega | (simp only [nx]; first | done | omega)) only [go_sem, b3, q11, w1]; (repeat with_reducible refine aI ?_))
        (refine ⟨by omega, (by (repeat' first | assumption | exact St.Sub.refl _ | exact RowOk.sub (by assumption) (by assumption) | refine St.Sub.trans ?_ (RowOk.sub (by assumption) (by assumption)) | refine St.Sub.add ?_ ?_ _ | refine St.Sub.set ?_ ?_ ?_ _ | refine St.Sub.keep ?_ ?_ | refine St.WF.leave ?_ _ | refine St.WF.add ?_ _ | refine St.WF.set ?_ ?_ _ | refine St.WF.grow ?_ _ _ _ | refine St.WF.keep ?_ ?_ | (first | omega | (simp only [RowOk.lo, nx]; first | done | omega)))), ?_⟩; refine ⟨by omega, ?_, ?_⟩; all_goals (try (first | (simp (disch := first | decide | omega | (simp only [nx]; first | done | omega)) only [go_sem, w1]; first | done | rfl) | rfl)))
        exact ⟨by omega, hce⟩
      · have b3 : (!decide (l[i] = m[i])) = true := by simp [he]
        rw [if_neg he] at hce
        (simp (disch := first | decide | omega | (simp only [nx]; first | done | omega)) only [go_sem, b3]; (repeat with_reducible refine aI ?_))
        refine ⟨?_, (by (repeat' first | assumption | exact St.Sub.refl _ | exact RowOk.sub (by assumption) (by assumption) | refine St.Sub.trans ?_ (RowOk.sub (by assumption) (by assumption)) | refine St.Sub.add ?_ ?_ _ | refine St.Sub.set ?_ ?_ ?_ _ | refine St.Sub.keep ?_ ?_ | refine St.WF.leave ?_ _ | refine St.WF.add ?_ _ | refine St.WF.set ?_ ?_ _ | refine St.WF.grow ?_ _ _ _ | refine St.WF.keep ?_ ?_ | (first | omega | (simp only [RowOk.lo, nx]; first | done | omega))))⟩
        simp only [D.frz, hce]
    · have b2 : decide ((i : Int) ≥ (m.length : Int)) = true := by simp; omega
      (simp (disch := first | decide | omega | (simp only [nx]; first | done | omega)) only [go_sem, q0, q1, q9, q10, q11, b1, b2, hk1, hk2, x2, Nat.mul_one]; (repeat with_reducible refine aI ?_))
      refine ⟨?_, (by (repeat' first | assumption | exact St.Sub.refl _ | exact RowOk.sub (by assumption) (by assumption) | refine St.Sub.trans ?_ (RowOk.sub (by assumption) (by assumption)) | refine St.Sub.add ?_ ?_ _ | refine St.Sub.set ?_ ?_ ?_ _ | refine St.Sub.keep ?_ ?_ | refine St.WF.leave ?_ _ | refine St.WF.add ?_ _ | refine St.WF.set ?_ ?_ _ | refine St.WF.grow ?_ _ _ _ | refine St.WF.keep ?_ ?_ | (first | omega | (simp only [RowOk.lo, nx]; first | done | omega))))⟩
      rw [hce, List.drop_eq_getElem_cons hlt, List.drop_eq_nil_of_le (by omega : m.length ≤ i)]
      rfl
  · have b1 : decide ((i : Int) < (l.length : Int)) = false := by simp; omega
    by_cases hmt : l.length < m.length
    · have b2 : decide ((l.length : Int) < (m.length : Int)) = true := by simp; omega
      (simp (disch := first | decide | omega | (simp only [nx]; first | done | omega)) only [go_sem, q0, q1, q9, q10, q11, b1, b2]; (repeat with_reducible refine aI ?_))
      refine ⟨?_, (by (repeat' first | assumption | exact St.Sub.refl _ | exact RowOk.sub (by assumption) (by assumption) | refine St.Sub.trans ?_ (RowOk.sub (by assumption) (by assumption)) | refine St.Sub.add ?_ ?_ _ | refine St.Sub.set ?_ ?_ ?_ _ | refine St.Sub.keep ?_ ?_ | refine St.WF.leave ?_ _ | refine St.WF.add ?_ _ | refine St.WF.set ?_ ?_ _ | refine St.WF.grow ?_ _ _ _ | refine St.WF.keep ?_ ?_ | (first | omega | (simp only [RowOk.lo, nx]; first | done | omega))))⟩
      rw [hce, List.drop_eq_nil_of_le (by omega : l.length ≤ i), List.drop_eq_getElem_cons (by omega : i < m.length)]
      rfl
    · have b2 : decide ((l.length : Int) < (m.length : Int)) = false := by simp; omega
      (simp (disch := first | decide | omega | (simp only [nx]; first | done | omega)) only [go_sem, q0, q1, q9, q10, q11, b1, b2]; (repeat with_reducible refine aI ?_))
      refine ⟨?_, (by (repeat' first | assumption | exact St.Sub.refl _ | exact RowOk.sub (by assumption) (by assumption) | refine St.Sub.trans ?_ (RowOk.sub (by assumption) (by assumption)) | refine St.Sub.add ?_ ?_ _ | refine St.Sub.set ?_ ?_ ?_ _ | refine St.Sub.keep ?_ ?_ | refine St.WF.leave ?_ _ | refine St.WF.add ?_ _ | refine St.WF.set ?_ ?_ _ | refine St.WF.grow ?_ _ _ _ | refine St.WF.keep ?_ ?_ | (first | omega | (simp only [RowOk.lo, nx]; first | done | omega))))⟩
      rw [hce, List.drop_eq_nil_of_le (by omega : l.length ≤ i), List.drop_eq_nil_of_le (by omega : m.length ≤ i)]
      rfl
theorem cmpL_st {S : St} {k off c k2 off2 c2 : Nat} {l m : List UInt8} (hl : WinB S k off l) (hm : WinB S k2 off2 m) (hll : l.length ≤ 1000000) (hml : m.length ≤ 1000000) : DSt Tryz.prog 84 [.win k off l.length c, .win k2 off2 m.length c2] S (.v (.int .i64 (cmpL l m))) := fun T _ hT => by
  obtain ⟨t1, cs1, hk1, hb1⟩ := hl.ex
  obtain ⟨t2, cs2, hk2, hb2⟩ := hm.ex
  exact cmpL_at ⟨t1, cs1, hT _ _ hk1, hb1⟩ ⟨t2, cs2, hT _ _ hk2, hb2⟩ hll hml
theorem cmpH_st {S : St} {k off c k2 off2 c2 : Nat} (a b : H32) (hl : WinB S k off a.1) (hm : WinB S k2 off2 b.1) : DSt Tryz.prog 84 [.win k off 32 c, .win k2 off2 32 c2] S (.v (.int .i64 (cmpH a b))) := by
  have := cmpL_st (c := c) (c2 := c2) hl hm (by rw [a.2]; omega) (by rw [b.2]; omega)
  rwa [a.2, b.2] at this
theorem winB_hash {S : St} {k : Nat} {t : TypeId} (m : H32) (h : S.ob k = some (.box t (m.1.map bD))) : WinB S k 0 m.1 := ⟨t, m.1.map bD, h, fun i hi => by
  have := m.2
  refine ⟨by rw [List.length_map]; omega, ?_⟩
  rw [Nat.zero_add, List.getD_eq_getElem?_getD, List.getElem?_map, List.getElem?_eq_getElem hi]
  rfl⟩
end
end Go.Proofs.YtonncfminojejaaGreatDoor

namespace Go.Proofs.YtonncfminojejaaGreatDoor
open Go.RowKit
def valB : List UInt8 → Nat
  | [] => 0
  | x :: l => x.toNat * 256 ^ l.length + valB l
theorem valB_lt : ∀ l : List UInt8, valB l < 256 ^ l.length
  | [] => by simp [valB]
  | x :: l => by
    have ih := valB_lt l
    have hx : x.toNat < 256 := x.toNat_lt
    rw [valB, List.length_cons, Nat.pow_succ]
    have h1 : (x.toNat + 1) * 256 ^ l.length ≤ 256 * 256 ^ l.length := Nat.mul_le_mul_right _ (by omega)
    rw [Nat.add_mul, Nat.one_mul] at h1
    omega
theorem cmpL_val : ∀ a b : List UInt8, a.length = b.length → cmpL a b = cmpI (valB a) (valB b) ∧ (valB a = valB b → a = b)
  | [], [], _ => ⟨by simp [cmpL, cmpI, valB], fun _ => rfl⟩
  | [], _ :: _, h => by simp at h
  | _ :: _, [], h => by simp at h
  | x :: a, y :: b, h => by
    have hl : a.length = b.length := by simpa using h
    obtain ⟨i1, i2⟩ := cmpL_val a b hl
    have ha := valB_lt a
    have hb := valB_lt b
    rw [hl] at ha
    rw [cmpL, valB, valB, hl]
    by_cases hxy : x = y
    · subst hxy
      rw [if_pos rfl, i1]
      refine ⟨?_, fun h => ?_⟩
      · unfold cmpI
        by_cases h1 : (valB a : Int) < valB b
        · rw [if_pos h1, if_pos (by omega)]
        · by_cases h2 : (valB b : Int) < valB a
          · rw [if_neg h1, if_pos h2, if_neg (by omega), if_pos (by omega)]
          · rw [if_neg h1, if_neg h2, if_neg (by omega), if_neg (by omega)]
      · rw [i2 (by omega)]
    · rw [if_neg hxy]
      have hne : x.toNat ≠ y.toNat := fun h => hxy (UInt8.toNat_inj.1 h)
      rcases Nat.lt_or_gt_of_ne hne with h1 | h1
      · have h2 : (x.toNat + 1) * 256 ^ b.length ≤ y.toNat * 256 ^ b.length := Nat.mul_le_mul_right _ h1
        rw [Nat.add_mul, Nat.one_mul] at h2
        refine ⟨?_, fun h => by omega⟩
        unfold cmpI
        rw [if_pos (by omega), if_pos (by omega)]
      · have h2 : (y.toNat + 1) * 256 ^ b.length ≤ x.toNat * 256 ^ b.length := Nat.mul_le_mul_right _ h1
        rw [Nat.add_mul, Nat.one_mul] at h2
        refine ⟨?_, fun h => by omega⟩
        unfold cmpI
        rw [if_neg (by omega), if_pos (by omega), if_neg (by omega), if_pos (by omega)]
def valH (h : H32) : Nat := valB h.1
theorem valH_lt (h : H32) : valH h < 256 ^ 32 := by have := valB_lt h.1; rwa [h.2] at this
theorem valH_inj {a b : H32} (h : valH a = valH b) : a = b := Subtype.ext ((cmpL_val a.1 b.1 (a.2.trans b.2.symm)).2 h)
theorem cmpH_val (a b : H32) : cmpH a b = cmpI (valH a) (valH b) := (cmpL_val a.1 b.1 (a.2.trans b.2.symm)).1
def key (m : DMk) : Int := m.1 * (256 ^ 32 : Nat) + (valH m.2 : Nat)
theorem key_lt_iff (a b : DMk) : key a < key b ↔ a.1 < b.1 ∨ a.1 = b.1 ∧ valH a.2 < valH b.2 := by
  have ha := valH_lt a.2
  have hb := valH_lt b.2
  unfold key
  generalize (256 ^ 32 : Nat) = N at *
  constructor
  · intro h
    rcases Int.lt_trichotomy a.1 b.1 with h1 | h1 | h1
    · exact .inl h1
    · refine .inr ⟨h1, ?_⟩
      rw [h1] at h
      omega
    · exfalso
      have h2 : (b.1 + 1) * (N : Int) ≤ a.1 * N := Int.mul_le_mul_of_nonneg_right (by omega) (by omega)
      rw [Int.add_mul, Int.one_mul] at h2
      omega
  · rintro (h1 | ⟨h1, h2⟩)
    · have h2 : (a.1 + 1) * (N : Int) ≤ b.1 * N := Int.mul_le_mul_of_nonneg_right (by omega) (by omega)
      rw [Int.add_mul, Int.one_mul] at h2
      omega
    · rw [h1]; omega
theorem key_inj {a b : DMk} (h : key a = key b) : a = b := by
  have h1 := mt (key_lt_iff a b).2 (by omega)
  have h2 := mt (key_lt_iff b a).2 (by omega)
  simp only [not_or, not_and] at h1 h2
  have h3 : a.1 = b.1 := by omega
  exact Prod.ext h3 (valH_inj (by have := h1.2 h3; have := h2.2 h3.symm; omega))
theorem cmpI_neg (a b : Int) : cmpI a b < 0 ↔ a < b := by
  unfold cmpI
  split
  · simp_all
  · split <;> simp_all
def ltM (a b : DMk) : Bool := decide (key a < key b)
def Asc (l : List DMk) : Prop := l.Pairwise fun a b => key a < key b
def ahead (l : List DMk) (m : DMk) : Nat := l.findIdx fun x => !ltM x m
def insM (l : List DMk) (m : DMk) : List DMk := if l[ahead l m]? = some m then l else l.take (ahead l m) ++ m :: l.drop (ahead l m)
def lineM (l : List DMk) : List DMk := l.foldl insM []
theorem ahead_le (l : List DMk) (m : DMk) : ahead l m ≤ l.length := List.findIdx_le_length
theorem insM_len (l : List DMk) (m : DMk) : (insM l m).length ≤ l.length + 1 := by
  have := ahead_le l m
  unfold insM
  split
  · omega
  · simp; omega
theorem ahead_lt {l : List DMk} {m : DMk} {i : Nat} (h : i < ahead l m) (hi : i < l.length) : key l[i] < key m := by
  have := List.not_of_lt_findIdx h
  simpa [ltM] using this
theorem ahead_ge {l : List DMk} {m : DMk} (h : ahead l m < l.length) : ¬ key l[ahead l m] < key m := by
  have := List.findIdx_getElem (w := h)
  intro hk
  have h2 : ltM (l[List.findIdx (fun x => !ltM x m) l]'h) m = true := decide_eq_true hk
  simp [h2] at this
theorem mem_insM {l : List DMk} {m x : DMk} : x ∈ insM l m ↔ x ∈ l ∨ x = m := by
  unfold insM
  split
  · rename_i h
    have := List.mem_of_getElem? h
    constructor
    · exact .inl
    · rintro (h | rfl)
      · exact h
      · exact this
  · rw [List.mem_append, List.mem_cons]
    conv => rhs; rw [← List.take_append_drop (ahead l m) l, List.mem_append]
    constructor
    · rintro (h | h | h)
      · exact .inl (.inl h)
      · exact .inr h
      · exact .inl (.inr h)
    · rintro ((h | h) | h)
      · exact .inl h
      · exact .inr (.inr h)
      · exact .inr (.inl h)
theorem asc_insM {l : List DMk} (h : Asc l) (m : DMk) : Asc (insM l m) := by
  unfold insM
  split
  · exact h
  · rename_i hn
    have hlt : ∀ a ∈ l.take (ahead l m), key a < key m := fun a ha => by
      obtain ⟨i, hi, rfl⟩ := List.getElem_of_mem ha
      have hi' : i < ahead l m ∧ i < l.length := by simp at hi; omega
      rw [List.getElem_take]
      exact ahead_lt hi'.1 hi'.2
    have hgt : ∀ b ∈ l.drop (ahead l m), key m < key b := fun b hb => by
      obtain ⟨i, hi, rfl⟩ := List.getElem_of_mem hb
      rw [List.length_drop] at hi
      have h0 : ahead l m < l.length := by omega
      have h1 : key m < key l[ahead l m] := by
        have h2 := ahead_ge h0
        rcases Int.lt_trichotomy (key l[ahead l m]) (key m) with h3 | h3 | h3
        · exact absurd h3 h2
        · exact absurd (by rw [List.getElem?_eq_getElem h0, key_inj h3]) hn
        · exact h3
      rw [List.getElem_drop]
      rcases Nat.eq_zero_or_pos i with rfl | hi0
      · simpa using h1
      · have := (List.pairwise_iff_getElem.1 h) (ahead l m) (ahead l m + i) h0 (by omega) (by omega)
        omega
    refine List.pairwise_append.2 ⟨h.sublist (List.take_sublist _ _), List.pairwise_cons.2 ⟨hgt, h.sublist (List.drop_sublist _ _)⟩, fun a ha b hb => ?_⟩
    rcases List.mem_cons.1 hb with rfl | hb
    · exact hlt a ha
    · have := hlt a ha; have := hgt b hb; omega
theorem foldl_insM : ∀ (l acc : List DMk), Asc acc → Asc (l.foldl insM acc) ∧ ∀ m, m ∈ l.foldl insM acc ↔ m ∈ acc ∨ m ∈ l
  | [], acc, h => ⟨h, fun m => by simp⟩
  | x :: l, acc, h => by
    obtain ⟨h1, h2⟩ := foldl_insM l (insM acc x) (asc_insM h x)
    refine ⟨h1, fun m => ?_⟩
    rw [List.foldl_cons, h2, mem_insM, List.mem_cons]
    constructor
    · rintro ((h | h) | h)
      · exact .inl h
      · exact .inr (.inl h)
      · exact .inr (.inr h)
    · rintro (h | h | h)
      · exact .inl (.inl h)
      · exact .inl (.inr h)
      · exact .inr h
theorem asc_lineM (l : List DMk) : Asc (lineM l) := (foldl_insM l [] List.Pairwise.nil).1
theorem mem_lineM (l : List DMk) (m : DMk) : m ∈ lineM l ↔ m ∈ l := by
  have := (foldl_insM l [] List.Pairwise.nil).2 m
  simpa [lineM] using this
theorem foldl_insM_len : ∀ (l acc : List DMk), (l.foldl insM acc).length ≤ acc.length + l.length
  | [], acc => by simp
  | x :: l, acc => by
    have h1 := foldl_insM_len l (insM acc x)
    have h2 := insM_len acc x
    rw [List.foldl_cons, List.length_cons]
    omega
theorem lineM_len (l : List DMk) : (lineM l).length ≤ l.length := by have := foldl_insM_len l []; rwa [List.length_nil, Nat.zero_add] at this
theorem rev_ind {α : Type} {p : List α → Prop} (h0 : p []) (h1 : ∀ l x, p l → p (l ++ [x])) (l : List α) : p l := by
  have key : ∀ r : List α, p r.reverse := fun r => by
    induction r with
    | nil => exact h0
    | cons x r ih => rw [List.reverse_cons]; exact h1 _ _ ih
  simpa using key l.reverse
def pack1 (acc : List DMk) (x : DMk) : List DMk := if acc.getLast? = some x then acc else acc ++ [x]
def packM (l : List DMk) : List DMk := l.foldl pack1 []
end Go.Proofs.YtonncfminojejaaGreatDoor

namespace Go.Proofs.YtonncfminojejaaGreatDoor
open Go.RowKit
theorem getD_hash (h : H32) (i : Nat) (hi : i < 32) : (h.1.map bD).getD i undefD = bD (h.1[i]'(by rw [h.2]; exact hi)) := by
  rw [List.getD_eq_getElem?_getD, List.getElem?_map, List.getElem?_eq_getElem (by rw [h.2]; exact hi)]
  rfl
section
set_option maxRecDepth 200000
set_option maxHeartbeats 4000000
theorem valB_drop (a b : List UInt8) (i : Nat) (h : a.length = b.length) (hi : i < a.length) (hs : ∀ j, j < i → a[j]? = b[j]?) (hne : a[i] ≠ b[i]'(by omega)) : (valB a < valB b ↔ a[i].toNat < (b[i]'(by omega)).toNat) := by
  induction i generalizing a b with
  | zero =>
    match a, b, h, hi with
    | x :: a, y :: b, h, _ =>
      have hl : a.length = b.length := by simpa using h
      have := (cmpL_val (x :: a) (y :: b) h).1
      simp only [List.getElem_cons_zero] at hne ⊢
      rw [cmpL, if_neg hne] at this
      have h1 := cmpI_neg x.toNat y.toNat
      have h2 := cmpI_neg (valB (x :: a)) (valB (y :: b))
      rw [this] at h1
      omega
  | succ i ih =>
    match a, b, h, hi with
    | x :: a, y :: b, h, hi =>
      have hl : a.length = b.length := by simpa using h
      have h0 : x = y := by simpa using hs 0 (by omega)
      subst h0
      simp only [List.getElem_cons_succ] at hne ⊢
      have := ih a b hl (by simpa using hi) (fun j hj => by simpa using hs (j + 1) (by omega)) hne
      have hp : 256 ^ a.length = 256 ^ b.length := by rw [hl]
      rw [valB, valB, hp]
      omega
theorem rless_d (a b : H32) : DPure Tryz.prog 35 [encH a, encH b] (.v (.bool (decide (valH a < valH b)))) := by
  refine dpure_of_dwp mixed Tryz.func35 rfl (fun _ _ => by kernel_rfl) (rs := [.tmp 4]) rfl (by kernel_rfl) trivial (fun S hS => ?_)
  (simp (disch := first | decide | omega | (simp only [nx]; first | done | omega)) only [go_sem]; (repeat with_reducible refine aI ?_))
  have ha := a.2
  have hb := b.2
  (refine dloop_st (fun t => List.contains [4, 5, 6, 7, 8, 9, 10, 11, 12, 13, 14, 15, 16, 17, 18, 19, 20, 21, 22, 23] t) (by kernel_rfl) ?_ (32) (fun i f => i ≤ 32 ∧ f 5 = .v (.int .i64 (i : Nat)) ∧ (∀ j, j < i → a.1[j]? = b.1[j]?)) ?_ ?_; (exact (by (repeat' first | assumption | refine St.WF.leave ?_ _ | refine St.WF.add ?_ _ | refine St.WF.set ?_ ?_ _ | refine St.WF.grow ?_ _ _ _ | refine St.WF.keep ?_ ?_ | (first | omega | (simp only [RowOk.lo, nx]; first | done | omega))))); (exact ⟨(by omega), (by (first | (simp (disch := first | decide | omega | (simp only [nx]; first | done | omega)) only [go_sem]; first | done | rfl) | rfl)), (fun j hj => by omega)⟩); intro i g tn hn hT hg hI; obtain ⟨le, q5, hs⟩ := hI; have q2 := hg 2 rfl; have q3 := hg 3 rfl; simp (disch := first | decide | omega | (simp only [nx]; first | done | omega)) only [go_sem] at q2 q3; clear hg; have hn' := hn; try simp only [add_next, set_next, grow_next, leave_next, drop_next] at hn')
  by_cases hlt : i < 32
  · have b1 : decide ((i : Int) < 32) = true := by simp; omega
    have w1 : IntKind.i64.wrap ((i : Int) + 1) = ((i + 1 : Nat) : Int) := IntWalk.i64_in _ ⟨by omega, by omega⟩
    have g1 := getD_hash a i hlt
    have g2 := getD_hash b i hlt
    have l1 := len_encH a
    have l2 := len_encH b
    by_cases hx : a.1[i] = b.1[i]
    · have b2 : ((a.1[i].toNat : Int) != (b.1[i].toNat : Int)) = false := by simp [hx]
      (simp (disch := first | decide | omega | (simp only [nx]; first | done | omega)) only [go_sem, q2, q3, q5, b1]; (repeat with_reducible refine aI ?_))
      refine ddraw_mk 7 (by kernel_rfl) ?_
      (simp (disch := first | decide | omega | (simp only [nx]; first | done | omega)) only [go_sem, q2, q3, q5, b1, Nat.mul_one, Nat.zero_add, g1, g2, l1, l2, hlt, bD, b2, w1]; (repeat with_reducible refine aI ?_))
      (refine ⟨by omega, (by (repeat' first | assumption | exact St.Sub.refl _ | exact RowOk.sub (by assumption) (by assumption) | refine St.Sub.trans ?_ (RowOk.sub (by assumption) (by assumption)) | refine St.Sub.add ?_ ?_ _ | refine St.Sub.set ?_ ?_ ?_ _ | refine St.Sub.keep ?_ ?_ | refine St.WF.leave ?_ _ | refine St.WF.add ?_ _ | refine St.WF.set ?_ ?_ _ | refine St.WF.grow ?_ _ _ _ | refine St.WF.keep ?_ ?_ | (first | omega | (simp only [RowOk.lo, nx]; first | done | omega)))), ?_⟩; refine ⟨by omega, ?_, ?_⟩; all_goals (try (first | (simp (disch := first | decide | omega | (simp only [nx]; first | done | omega)) only [go_sem, w1]; first | done | rfl) | rfl)))
      intro j hj
      by_cases e : j = i
      · subst e; rw [List.getElem?_eq_getElem (by omega), List.getElem?_eq_getElem (by omega), hx]
      · exact hs j (by omega)
    · have hne : a.1[i].toNat ≠ b.1[i].toNat := fun h => hx (UInt8.toNat_inj.1 h)
      have b2 : ((a.1[i].toNat : Int) != (b.1[i].toNat : Int)) = true := by simp; omega
      (simp (disch := first | decide | omega | (simp only [nx]; first | done | omega)) only [go_sem, q2, q3, q5, b1]; (repeat with_reducible refine aI ?_))
      refine ddraw_mk 7 (by kernel_rfl) ?_
      (simp (disch := first | decide | omega | (simp only [nx]; first | done | omega)) only [go_sem, q2, q3, q5, b1, Nat.mul_one, Nat.zero_add, g1, g2, l1, l2, hlt, bD, b2, w1]; (repeat with_reducible refine aI ?_))
      refine ddraw_mk 8 (by kernel_rfl) ?_
      (simp (disch := first | decide | omega | (simp only [nx]; first | done | omega)) only [go_sem, q2, q3, q5, b1, Nat.mul_one, Nat.zero_add, g1, g2, l1, l2, hlt, bD, b2, w1]; (repeat with_reducible refine aI ?_))
      refine ⟨?_, (by (repeat' first | assumption | exact St.Sub.refl _ | exact RowOk.sub (by assumption) (by assumption) | refine St.Sub.trans ?_ (RowOk.sub (by assumption) (by assumption)) | refine St.Sub.add ?_ ?_ _ | refine St.Sub.set ?_ ?_ ?_ _ | refine St.Sub.keep ?_ ?_ | refine St.WF.leave ?_ _ | refine St.WF.add ?_ _ | refine St.WF.set ?_ ?_ _ | refine St.WF.grow ?_ _ _ _ | refine St.WF.keep ?_ ?_ | (first | omega | (simp only [RowOk.lo, nx]; first | done | omega))))⟩
      have := valB_drop a.1 b.1 i (by omega) (by omega) hs hx
      simp only [D.frz, D.v.injEq, Value.bool.injEq, decide_eq_decide]
      unfold valH
      omega
  · have b1 : decide ((i : Int) < 32) = false := by simp; omega
    (simp (disch := first | decide | omega | (simp only [nx]; first | done | omega)) only [go_sem, q2, q3, q5, b1]; (repeat with_reducible refine aI ?_))
    refine ⟨?_, (by (repeat' first | assumption | exact St.Sub.refl _ | exact RowOk.sub (by assumption) (by assumption) | refine St.Sub.trans ?_ (RowOk.sub (by assumption) (by assumption)) | refine St.Sub.add ?_ ?_ _ | refine St.Sub.set ?_ ?_ ?_ _ | refine St.Sub.keep ?_ ?_ | refine St.WF.leave ?_ _ | refine St.WF.add ?_ _ | refine St.WF.set ?_ ?_ _ | refine St.WF.grow ?_ _ _ _ | refine St.WF.keep ?_ ?_ | (first | omega | (simp only [RowOk.lo, nx]; first | done | omega))))⟩
    have : a = b := Subtype.ext (List.ext_getElem? fun j => by
      by_cases hj : j < i
      · exact hs j hj
      · rw [List.getElem?_eq_none (by omega), List.getElem?_eq_none (by omega)])
    subst this
    simp [D.frz]
end
end Go.Proofs.YtonncfminojejaaGreatDoor
