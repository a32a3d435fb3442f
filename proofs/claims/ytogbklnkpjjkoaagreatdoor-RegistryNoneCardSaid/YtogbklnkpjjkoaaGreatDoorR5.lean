/- Texts of a proof, part 5. Conditions: none. -/
import Derived.Test.YtogbklnkpjjkoaaGreatDoorR4
import Derived.Test.YtogbklnkpjjkoaaGreatDoorProg
import Derived.KernelRfl
set_option linter.unusedVariables false
set_option linter.unusedSimpArgs false
namespace Go.Proofs.YtogbklnkpjjkoaaGreatDoor

@[go_sem] theorem okT_1 : okT Tryz.prog 1 = true := by kernel_rfl
@[go_sem] theorem szOf_1 : szOf Tryz.prog 1 = 1 := by kernel_rfl
@[go_sem] theorem aggT_1 : aggT Tryz.prog 1 = false := by kernel_rfl
@[go_sem] theorem undS_1 : (Tryz.prog.underlying 1).isSome = true := by kernel_rfl
@[go_sem] theorem infS_1 : (Tryz.prog.info? 1).isSome = true := by kernel_rfl
@[go_sem] theorem ifaceT_1 : ifaceT Tryz.prog 1 = false := by kernel_rfl
@[go_sem] theorem ptrT_1 : ptrT Tryz.prog 1 = false := by kernel_rfl
@[go_sem] theorem zeroT_1 : zeroT Tryz.prog 1 = true := by kernel_rfl
@[go_sem] theorem zeroOk_1 : zeroOk Tryz.prog 1 = true := by kernel_rfl
@[go_sem] theorem bytesOf_1 : bytesOf Tryz.prog 1 = 8 := by kernel_rfl
@[go_sem] theorem zeroD_1 : zeroD Tryz.prog 1 = [.v .nilFunc] := by kernel_rfl
@[go_sem] theorem okT_2 : okT Tryz.prog 2 = true := by kernel_rfl
@[go_sem] theorem szOf_2 : szOf Tryz.prog 2 = 1 := by kernel_rfl
@[go_sem] theorem aggT_2 : aggT Tryz.prog 2 = false := by kernel_rfl
@[go_sem] theorem undS_2 : (Tryz.prog.underlying 2).isSome = true := by kernel_rfl
@[go_sem] theorem infS_2 : (Tryz.prog.info? 2).isSome = true := by kernel_rfl
@[go_sem] theorem ifaceT_2 : ifaceT Tryz.prog 2 = false := by kernel_rfl
@[go_sem] theorem ptrT_2 : ptrT Tryz.prog 2 = false := by kernel_rfl
@[go_sem] theorem zeroT_2 : zeroT Tryz.prog 2 = true := by kernel_rfl
@[go_sem] theorem zeroOk_2 : zeroOk Tryz.prog 2 = true := by kernel_rfl
@[go_sem] theorem bytesOf_2 : bytesOf Tryz.prog 2 = 8 := by kernel_rfl
@[go_sem] theorem zeroD_2 : zeroD Tryz.prog 2 = [.v (.int .i64 0)] := by kernel_rfl
@[go_sem] theorem okT_3 : okT Tryz.prog 3 = true := by kernel_rfl
@[go_sem] theorem szOf_3 : szOf Tryz.prog 3 = 1 := by kernel_rfl
@[go_sem] theorem aggT_3 : aggT Tryz.prog 3 = false := by kernel_rfl
@[go_sem] theorem undS_3 : (Tryz.prog.underlying 3).isSome = true := by kernel_rfl
@[go_sem] theorem infS_3 : (Tryz.prog.info? 3).isSome = true := by kernel_rfl
@[go_sem] theorem ifaceT_3 : ifaceT Tryz.prog 3 = false := by kernel_rfl
@[go_sem] theorem ptrT_3 : ptrT Tryz.prog 3 = false := by kernel_rfl
@[go_sem] theorem zeroT_3 : zeroT Tryz.prog 3 = true := by kernel_rfl
@[go_sem] theorem zeroOk_3 : zeroOk Tryz.prog 3 = true := by kernel_rfl
@[go_sem] theorem bytesOf_3 : bytesOf Tryz.prog 3 = 8 := by kernel_rfl
@[go_sem] theorem zeroD_3 : zeroD Tryz.prog 3 = [.v (.int .i64 0)] := by kernel_rfl
@[go_sem] theorem okT_4 : okT Tryz.prog 4 = true := by kernel_rfl
@[go_sem] theorem szOf_4 : szOf Tryz.prog 4 = 1 := by kernel_rfl
@[go_sem] theorem aggT_4 : aggT Tryz.prog 4 = false := by kernel_rfl
@[go_sem] theorem undS_4 : (Tryz.prog.underlying 4).isSome = true := by kernel_rfl
@[go_sem] theorem infS_4 : (Tryz.prog.info? 4).isSome = true := by kernel_rfl
@[go_sem] theorem ifaceT_4 : ifaceT Tryz.prog 4 = false := by kernel_rfl
@[go_sem] theorem ptrT_4 : ptrT Tryz.prog 4 = false := by kernel_rfl
@[go_sem] theorem zeroT_4 : zeroT Tryz.prog 4 = true := by kernel_rfl
@[go_sem] theorem zeroOk_4 : zeroOk Tryz.prog 4 = true := by kernel_rfl
@[go_sem] theorem bytesOf_4 : bytesOf Tryz.prog 4 = 1 := by kernel_rfl
@[go_sem] theorem zeroD_4 : zeroD Tryz.prog 4 = [.v (.bool false)] := by kernel_rfl
@[go_sem] theorem okT_5 : okT Tryz.prog 5 = true := by kernel_rfl
@[go_sem] theorem szOf_5 : szOf Tryz.prog 5 = 1 := by kernel_rfl
@[go_sem] theorem aggT_5 : aggT Tryz.prog 5 = false := by kernel_rfl
@[go_sem] theorem undS_5 : (Tryz.prog.underlying 5).isSome = true := by kernel_rfl
@[go_sem] theorem infS_5 : (Tryz.prog.info? 5).isSome = true := by kernel_rfl
@[go_sem] theorem ifaceT_5 : ifaceT Tryz.prog 5 = false := by kernel_rfl
@[go_sem] theorem ptrT_5 : ptrT Tryz.prog 5 = false := by kernel_rfl
@[go_sem] theorem zeroT_5 : zeroT Tryz.prog 5 = true := by kernel_rfl
@[go_sem] theorem zeroOk_5 : zeroOk Tryz.prog 5 = true := by kernel_rfl
@[go_sem] theorem bytesOf_5 : bytesOf Tryz.prog 5 = 1 := by kernel_rfl
@[go_sem] theorem zeroD_5 : zeroD Tryz.prog 5 = [.v (.int .u8 0)] := by kernel_rfl
@[go_sem] theorem okT_6 : okT Tryz.prog 6 = true := by kernel_rfl
@[go_sem] theorem szOf_6 : szOf Tryz.prog 6 = 1 := by kernel_rfl
@[go_sem] theorem aggT_6 : aggT Tryz.prog 6 = false := by kernel_rfl
@[go_sem] theorem undS_6 : (Tryz.prog.underlying 6).isSome = true := by kernel_rfl
@[go_sem] theorem infS_6 : (Tryz.prog.info? 6).isSome = true := by kernel_rfl
@[go_sem] theorem ifaceT_6 : ifaceT Tryz.prog 6 = false := by kernel_rfl
@[go_sem] theorem ptrT_6 : ptrT Tryz.prog 6 = false := by kernel_rfl
@[go_sem] theorem zeroT_6 : zeroT Tryz.prog 6 = true := by kernel_rfl
@[go_sem] theorem zeroOk_6 : zeroOk Tryz.prog 6 = true := by kernel_rfl
@[go_sem] theorem bytesOf_6 : bytesOf Tryz.prog 6 = 1 := by kernel_rfl
@[go_sem] theorem zeroD_6 : zeroD Tryz.prog 6 = [.v (.int .u8 0)] := by kernel_rfl
@[go_sem] theorem okT_7 : okT Tryz.prog 7 = true := by kernel_rfl
@[go_sem] theorem szOf_7 : szOf Tryz.prog 7 = 4 := by kernel_rfl
@[go_sem] theorem aggT_7 : aggT Tryz.prog 7 = true := by kernel_rfl
@[go_sem] theorem undS_7 : (Tryz.prog.underlying 7).isSome = true := by kernel_rfl
@[go_sem] theorem infS_7 : (Tryz.prog.info? 7).isSome = true := by kernel_rfl
@[go_sem] theorem ifaceT_7 : ifaceT Tryz.prog 7 = false := by kernel_rfl
@[go_sem] theorem ptrT_7 : ptrT Tryz.prog 7 = false := by kernel_rfl
@[go_sem] theorem zeroT_7 : zeroT Tryz.prog 7 = true := by kernel_rfl
@[go_sem] theorem zeroOk_7 : zeroOk Tryz.prog 7 = true := by kernel_rfl
@[go_sem] theorem bytesOf_7 : bytesOf Tryz.prog 7 = 24 := by kernel_rfl
@[go_sem] theorem zeroD_7 : zeroD Tryz.prog 7 = [.v (.int .i64 0), .v (.int .i64 0), .v (.bool false), .v (.int .u8 0)] := by kernel_rfl
@[go_sem] theorem fld_7_0 : fld Tryz.prog 7 0 = some (0, 2) := by kernel_rfl
@[go_sem] theorem fld_7_1 : fld Tryz.prog 7 1 = some (1, 3) := by kernel_rfl
@[go_sem] theorem fld_7_2 : fld Tryz.prog 7 2 = some (2, 4) := by kernel_rfl
@[go_sem] theorem fld_7_3 : fld Tryz.prog 7 3 = some (3, 6) := by kernel_rfl
@[go_sem] theorem okT_8 : okT Tryz.prog 8 = true := by kernel_rfl
@[go_sem] theorem szOf_8 : szOf Tryz.prog 8 = 4 := by kernel_rfl
@[go_sem] theorem aggT_8 : aggT Tryz.prog 8 = true := by kernel_rfl
@[go_sem] theorem undS_8 : (Tryz.prog.underlying 8).isSome = true := by kernel_rfl
@[go_sem] theorem infS_8 : (Tryz.prog.info? 8).isSome = true := by kernel_rfl
@[go_sem] theorem ifaceT_8 : ifaceT Tryz.prog 8 = false := by kernel_rfl
@[go_sem] theorem ptrT_8 : ptrT Tryz.prog 8 = false := by kernel_rfl
@[go_sem] theorem zeroT_8 : zeroT Tryz.prog 8 = true := by kernel_rfl
@[go_sem] theorem zeroOk_8 : zeroOk Tryz.prog 8 = true := by kernel_rfl
@[go_sem] theorem bytesOf_8 : bytesOf Tryz.prog 8 = 24 := by kernel_rfl
@[go_sem] theorem zeroD_8 : zeroD Tryz.prog 8 = [.v (.int .i64 0), .v (.int .i64 0), .v (.bool false), .v (.int .u8 0)] := by kernel_rfl
@[go_sem] theorem fld_8_0 : fld Tryz.prog 8 0 = some (0, 2) := by kernel_rfl
@[go_sem] theorem fld_8_1 : fld Tryz.prog 8 1 = some (1, 3) := by kernel_rfl
@[go_sem] theorem fld_8_2 : fld Tryz.prog 8 2 = some (2, 4) := by kernel_rfl
@[go_sem] theorem fld_8_3 : fld Tryz.prog 8 3 = some (3, 6) := by kernel_rfl
@[go_sem] theorem okT_9 : okT Tryz.prog 9 = true := by kernel_rfl
@[go_sem] theorem szOf_9 : szOf Tryz.prog 9 = 1 := by kernel_rfl
@[go_sem] theorem aggT_9 : aggT Tryz.prog 9 = false := by kernel_rfl
@[go_sem] theorem undS_9 : (Tryz.prog.underlying 9).isSome = true := by kernel_rfl
@[go_sem] theorem infS_9 : (Tryz.prog.info? 9).isSome = true := by kernel_rfl
@[go_sem] theorem ifaceT_9 : ifaceT Tryz.prog 9 = false := by kernel_rfl
@[go_sem] theorem ptrT_9 : ptrT Tryz.prog 9 = false := by kernel_rfl
@[go_sem] theorem zeroT_9 : zeroT Tryz.prog 9 = true := by kernel_rfl
@[go_sem] theorem zeroOk_9 : zeroOk Tryz.prog 9 = true := by kernel_rfl
@[go_sem] theorem bytesOf_9 : bytesOf Tryz.prog 9 = 16 := by kernel_rfl
@[go_sem] theorem zeroD_9 : zeroD Tryz.prog 9 = [.v (.string ⟨#[]⟩)] := by kernel_rfl
@[go_sem] theorem strT_9 : strT Tryz.prog 9 = true := by kernel_rfl
@[go_sem] theorem bul_9 (s : ByteArray) (ty : TypeId) (cs : Array Bool) : dbuiltin Tryz.prog .len #[9] ty cs [.v (.string s)] = some (True, .v (.int .i64 s.size)) := bu_slen s _ ty cs strT_9
@[go_sem] theorem okT_10 : okT Tryz.prog 10 = true := by kernel_rfl
@[go_sem] theorem szOf_10 : szOf Tryz.prog 10 = 1 := by kernel_rfl
@[go_sem] theorem aggT_10 : aggT Tryz.prog 10 = false := by kernel_rfl
@[go_sem] theorem undS_10 : (Tryz.prog.underlying 10).isSome = true := by kernel_rfl
@[go_sem] theorem infS_10 : (Tryz.prog.info? 10).isSome = true := by kernel_rfl
@[go_sem] theorem ifaceT_10 : ifaceT Tryz.prog 10 = false := by kernel_rfl
@[go_sem] theorem ptrT_10 : ptrT Tryz.prog 10 = false := by kernel_rfl
@[go_sem] theorem zeroT_10 : zeroT Tryz.prog 10 = true := by kernel_rfl
@[go_sem] theorem zeroOk_10 : zeroOk Tryz.prog 10 = true := by kernel_rfl
@[go_sem] theorem bytesOf_10 : bytesOf Tryz.prog 10 = 16 := by kernel_rfl
@[go_sem] theorem zeroD_10 : zeroD Tryz.prog 10 = [.v (.string ⟨#[]⟩)] := by kernel_rfl
@[go_sem] theorem strT_10 : strT Tryz.prog 10 = true := by kernel_rfl
@[go_sem] theorem okT_11 : okT Tryz.prog 11 = true := by kernel_rfl
@[go_sem] theorem szOf_11 : szOf Tryz.prog 11 = 1 := by kernel_rfl
@[go_sem] theorem aggT_11 : aggT Tryz.prog 11 = false := by kernel_rfl
@[go_sem] theorem undS_11 : (Tryz.prog.underlying 11).isSome = true := by kernel_rfl
@[go_sem] theorem infS_11 : (Tryz.prog.info? 11).isSome = true := by kernel_rfl
@[go_sem] theorem ifaceT_11 : ifaceT Tryz.prog 11 = false := by kernel_rfl
@[go_sem] theorem ptrT_11 : ptrT Tryz.prog 11 = false := by kernel_rfl
@[go_sem] theorem zeroT_11 : zeroT Tryz.prog 11 = true := by kernel_rfl
@[go_sem] theorem zeroOk_11 : zeroOk Tryz.prog 11 = true := by kernel_rfl
@[go_sem] theorem bytesOf_11 : bytesOf Tryz.prog 11 = 16 := by kernel_rfl
@[go_sem] theorem zeroD_11 : zeroD Tryz.prog 11 = [.v (.string ⟨#[]⟩)] := by kernel_rfl
@[go_sem] theorem strT_11 : strT Tryz.prog 11 = true := by kernel_rfl
@[go_sem] theorem okT_12 : okT Tryz.prog 12 = true := by kernel_rfl
@[go_sem] theorem szOf_12 : szOf Tryz.prog 12 = 1 := by kernel_rfl
@[go_sem] theorem aggT_12 : aggT Tryz.prog 12 = false := by kernel_rfl
@[go_sem] theorem undS_12 : (Tryz.prog.underlying 12).isSome = true := by kernel_rfl
@[go_sem] theorem infS_12 : (Tryz.prog.info? 12).isSome = true := by kernel_rfl
@[go_sem] theorem ifaceT_12 : ifaceT Tryz.prog 12 = false := by kernel_rfl
@[go_sem] theorem ptrT_12 : ptrT Tryz.prog 12 = false := by kernel_rfl
@[go_sem] theorem zeroT_12 : zeroT Tryz.prog 12 = true := by kernel_rfl
@[go_sem] theorem zeroOk_12 : zeroOk Tryz.prog 12 = true := by kernel_rfl
@[go_sem] theorem bytesOf_12 : bytesOf Tryz.prog 12 = 8 := by kernel_rfl
@[go_sem] theorem zeroD_12 : zeroD Tryz.prog 12 = [.v (.int .u64 0)] := by kernel_rfl
@[go_sem] theorem okT_13 : okT Tryz.prog 13 = true := by kernel_rfl
@[go_sem] theorem szOf_13 : szOf Tryz.prog 13 = 2 := by kernel_rfl
@[go_sem] theorem aggT_13 : aggT Tryz.prog 13 = true := by kernel_rfl
@[go_sem] theorem undS_13 : (Tryz.prog.underlying 13).isSome = true := by kernel_rfl
@[go_sem] theorem infS_13 : (Tryz.prog.info? 13).isSome = true := by kernel_rfl
@[go_sem] theorem ifaceT_13 : ifaceT Tryz.prog 13 = false := by kernel_rfl
@[go_sem] theorem ptrT_13 : ptrT Tryz.prog 13 = false := by kernel_rfl
@[go_sem] theorem zeroT_13 : zeroT Tryz.prog 13 = true := by kernel_rfl
@[go_sem] theorem zeroOk_13 : zeroOk Tryz.prog 13 = true := by kernel_rfl
@[go_sem] theorem bytesOf_13 : bytesOf Tryz.prog 13 = 24 := by kernel_rfl
@[go_sem] theorem zeroD_13 : zeroD Tryz.prog 13 = [.v (.string ⟨#[]⟩), .v (.int .u64 0)] := by kernel_rfl
@[go_sem] theorem fld_13_0 : fld Tryz.prog 13 0 = some (0, 9) := by kernel_rfl
@[go_sem] theorem fld_13_1 : fld Tryz.prog 13 1 = some (1, 12) := by kernel_rfl
@[go_sem] theorem okT_14 : okT Tryz.prog 14 = true := by kernel_rfl
@[go_sem] theorem szOf_14 : szOf Tryz.prog 14 = 2 := by kernel_rfl
@[go_sem] theorem aggT_14 : aggT Tryz.prog 14 = true := by kernel_rfl
@[go_sem] theorem undS_14 : (Tryz.prog.underlying 14).isSome = true := by kernel_rfl
@[go_sem] theorem infS_14 : (Tryz.prog.info? 14).isSome = true := by kernel_rfl
@[go_sem] theorem ifaceT_14 : ifaceT Tryz.prog 14 = false := by kernel_rfl
@[go_sem] theorem ptrT_14 : ptrT Tryz.prog 14 = false := by kernel_rfl
@[go_sem] theorem zeroT_14 : zeroT Tryz.prog 14 = true := by kernel_rfl
@[go_sem] theorem zeroOk_14 : zeroOk Tryz.prog 14 = true := by kernel_rfl
@[go_sem] theorem bytesOf_14 : bytesOf Tryz.prog 14 = 24 := by kernel_rfl
@[go_sem] theorem zeroD_14 : zeroD Tryz.prog 14 = [.v (.string ⟨#[]⟩), .v (.int .u64 0)] := by kernel_rfl
@[go_sem] theorem fld_14_0 : fld Tryz.prog 14 0 = some (0, 9) := by kernel_rfl
@[go_sem] theorem fld_14_1 : fld Tryz.prog 14 1 = some (1, 12) := by kernel_rfl
@[go_sem] theorem okT_15 : okT Tryz.prog 15 = true := by kernel_rfl
@[go_sem] theorem szOf_15 : szOf Tryz.prog 15 = 1 := by kernel_rfl
@[go_sem] theorem aggT_15 : aggT Tryz.prog 15 = false := by kernel_rfl
@[go_sem] theorem undS_15 : (Tryz.prog.underlying 15).isSome = true := by kernel_rfl
@[go_sem] theorem infS_15 : (Tryz.prog.info? 15).isSome = true := by kernel_rfl
@[go_sem] theorem ifaceT_15 : ifaceT Tryz.prog 15 = false := by kernel_rfl
@[go_sem] theorem ptrT_15 : ptrT Tryz.prog 15 = true := by kernel_rfl
@[go_sem] theorem zeroT_15 : zeroT Tryz.prog 15 = true := by kernel_rfl
@[go_sem] theorem zeroOk_15 : zeroOk Tryz.prog 15 = true := by kernel_rfl
@[go_sem] theorem bytesOf_15 : bytesOf Tryz.prog 15 = 8 := by kernel_rfl
@[go_sem] theorem zeroD_15 : zeroD Tryz.prog 15 = [.v (.pointer none)] := by kernel_rfl
@[go_sem] theorem okT_16 : okT Tryz.prog 16 = true := by kernel_rfl
@[go_sem] theorem szOf_16 : szOf Tryz.prog 16 = 1 := by kernel_rfl
@[go_sem] theorem aggT_16 : aggT Tryz.prog 16 = false := by kernel_rfl
@[go_sem] theorem undS_16 : (Tryz.prog.underlying 16).isSome = true := by kernel_rfl
@[go_sem] theorem infS_16 : (Tryz.prog.info? 16).isSome = true := by kernel_rfl
@[go_sem] theorem ifaceT_16 : ifaceT Tryz.prog 16 = false := by kernel_rfl
@[go_sem] theorem ptrT_16 : ptrT Tryz.prog 16 = true := by kernel_rfl
@[go_sem] theorem zeroT_16 : zeroT Tryz.prog 16 = true := by kernel_rfl
@[go_sem] theorem zeroOk_16 : zeroOk Tryz.prog 16 = true := by kernel_rfl
@[go_sem] theorem bytesOf_16 : bytesOf Tryz.prog 16 = 8 := by kernel_rfl
@[go_sem] theorem zeroD_16 : zeroD Tryz.prog 16 = [.v (.pointer none)] := by kernel_rfl
@[go_sem] theorem okT_17 : okT Tryz.prog 17 = true := by kernel_rfl
@[go_sem] theorem szOf_17 : szOf Tryz.prog 17 = 1 := by kernel_rfl
@[go_sem] theorem aggT_17 : aggT Tryz.prog 17 = false := by kernel_rfl
@[go_sem] theorem undS_17 : (Tryz.prog.underlying 17).isSome = true := by kernel_rfl
@[go_sem] theorem infS_17 : (Tryz.prog.info? 17).isSome = true := by kernel_rfl
@[go_sem] theorem ifaceT_17 : ifaceT Tryz.prog 17 = false := by kernel_rfl
@[go_sem] theorem ptrT_17 : ptrT Tryz.prog 17 = true := by kernel_rfl
@[go_sem] theorem zeroT_17 : zeroT Tryz.prog 17 = true := by kernel_rfl
@[go_sem] theorem zeroOk_17 : zeroOk Tryz.prog 17 = true := by kernel_rfl
@[go_sem] theorem bytesOf_17 : bytesOf Tryz.prog 17 = 8 := by kernel_rfl
@[go_sem] theorem zeroD_17 : zeroD Tryz.prog 17 = [.v (.pointer none)] := by kernel_rfl
@[go_sem] theorem okT_18 : okT Tryz.prog 18 = true := by kernel_rfl
@[go_sem] theorem szOf_18 : szOf Tryz.prog 18 = 1 := by kernel_rfl
@[go_sem] theorem aggT_18 : aggT Tryz.prog 18 = true := by kernel_rfl
@[go_sem] theorem undS_18 : (Tryz.prog.underlying 18).isSome = true := by kernel_rfl
@[go_sem] theorem infS_18 : (Tryz.prog.info? 18).isSome = true := by kernel_rfl
@[go_sem] theorem ifaceT_18 : ifaceT Tryz.prog 18 = false := by kernel_rfl
@[go_sem] theorem ptrT_18 : ptrT Tryz.prog 18 = false := by kernel_rfl
@[go_sem] theorem zeroT_18 : zeroT Tryz.prog 18 = true := by kernel_rfl
@[go_sem] theorem zeroOk_18 : zeroOk Tryz.prog 18 = true := by kernel_rfl
@[go_sem] theorem bytesOf_18 : bytesOf Tryz.prog 18 = 8 := by kernel_rfl
@[go_sem] theorem zeroD_18 : zeroD Tryz.prog 18 = [.v (.pointer none)] := by kernel_rfl
@[go_sem] theorem fld_18_0 : fld Tryz.prog 18 0 = some (0, 17) := by kernel_rfl
@[go_sem] theorem okT_19 : okT Tryz.prog 19 = true := by kernel_rfl
@[go_sem] theorem szOf_19 : szOf Tryz.prog 19 = 1 := by kernel_rfl
@[go_sem] theorem aggT_19 : aggT Tryz.prog 19 = true := by kernel_rfl
@[go_sem] theorem undS_19 : (Tryz.prog.underlying 19).isSome = true := by kernel_rfl
@[go_sem] theorem infS_19 : (Tryz.prog.info? 19).isSome = true := by kernel_rfl
@[go_sem] theorem ifaceT_19 : ifaceT Tryz.prog 19 = false := by kernel_rfl
@[go_sem] theorem ptrT_19 : ptrT Tryz.prog 19 = false := by kernel_rfl
@[go_sem] theorem zeroT_19 : zeroT Tryz.prog 19 = true := by kernel_rfl
@[go_sem] theorem zeroOk_19 : zeroOk Tryz.prog 19 = true := by kernel_rfl
@[go_sem] theorem bytesOf_19 : bytesOf Tryz.prog 19 = 8 := by kernel_rfl
@[go_sem] theorem zeroD_19 : zeroD Tryz.prog 19 = [.v (.pointer none)] := by kernel_rfl
@[go_sem] theorem fld_19_0 : fld Tryz.prog 19 0 = some (0, 17) := by kernel_rfl
@[go_sem] theorem okT_20 : okT Tryz.prog 20 = true := by kernel_rfl
@[go_sem] theorem szOf_20 : szOf Tryz.prog 20 = 1 := by kernel_rfl
@[go_sem] theorem aggT_20 : aggT Tryz.prog 20 = false := by kernel_rfl
@[go_sem] theorem undS_20 : (Tryz.prog.underlying 20).isSome = true := by kernel_rfl
@[go_sem] theorem infS_20 : (Tryz.prog.info? 20).isSome = true := by kernel_rfl
@[go_sem] theorem ifaceT_20 : ifaceT Tryz.prog 20 = true := by kernel_rfl
@[go_sem] theorem ptrT_20 : ptrT Tryz.prog 20 = false := by kernel_rfl
@[go_sem] theorem zeroT_20 : zeroT Tryz.prog 20 = true := by kernel_rfl
@[go_sem] theorem zeroOk_20 : zeroOk Tryz.prog 20 = true := by kernel_rfl
@[go_sem] theorem bytesOf_20 : bytesOf Tryz.prog 20 = 16 := by kernel_rfl
@[go_sem] theorem zeroD_20 : zeroD Tryz.prog 20 = [.v .nilIface] := by kernel_rfl
@[go_sem] theorem okT_21 : okT Tryz.prog 21 = true := by kernel_rfl
@[go_sem] theorem szOf_21 : szOf Tryz.prog 21 = 1 := by kernel_rfl
@[go_sem] theorem aggT_21 : aggT Tryz.prog 21 = false := by kernel_rfl
@[go_sem] theorem undS_21 : (Tryz.prog.underlying 21).isSome = true := by kernel_rfl
@[go_sem] theorem infS_21 : (Tryz.prog.info? 21).isSome = true := by kernel_rfl
@[go_sem] theorem ifaceT_21 : ifaceT Tryz.prog 21 = false := by kernel_rfl
@[go_sem] theorem ptrT_21 : ptrT Tryz.prog 21 = false := by kernel_rfl
@[go_sem] theorem zeroT_21 : zeroT Tryz.prog 21 = true := by kernel_rfl
@[go_sem] theorem zeroOk_21 : zeroOk Tryz.prog 21 = true := by kernel_rfl
@[go_sem] theorem bytesOf_21 : bytesOf Tryz.prog 21 = 4 := by kernel_rfl
@[go_sem] theorem zeroD_21 : zeroD Tryz.prog 21 = [.v (.int .i32 0)] := by kernel_rfl
@[go_sem] theorem okT_22 : okT Tryz.prog 22 = true := by kernel_rfl
@[go_sem] theorem szOf_22 : szOf Tryz.prog 22 = 1 := by kernel_rfl
@[go_sem] theorem aggT_22 : aggT Tryz.prog 22 = false := by kernel_rfl
@[go_sem] theorem undS_22 : (Tryz.prog.underlying 22).isSome = true := by kernel_rfl
@[go_sem] theorem infS_22 : (Tryz.prog.info? 22).isSome = true := by kernel_rfl
@[go_sem] theorem ifaceT_22 : ifaceT Tryz.prog 22 = false := by kernel_rfl
@[go_sem] theorem ptrT_22 : ptrT Tryz.prog 22 = false := by kernel_rfl
@[go_sem] theorem zeroT_22 : zeroT Tryz.prog 22 = true := by kernel_rfl
@[go_sem] theorem zeroOk_22 : zeroOk Tryz.prog 22 = true := by kernel_rfl
@[go_sem] theorem bytesOf_22 : bytesOf Tryz.prog 22 = 24 := by kernel_rfl
@[go_sem] theorem zeroD_22 : zeroD Tryz.prog 22 = [.sl .full []] := by kernel_rfl
@[go_sem] theorem elT_22 : elT Tryz.prog 22 = some 9 := by kernel_rfl
@[go_sem] theorem bul_22 (own : Own) (es : List D) (ty : TypeId) (cs : Array Bool) : dbuiltin Tryz.prog .len #[22] ty cs [.sl own es] = some (True, .v (.int .i64 es.length)) := bu_len own es _ ty cs elT_22
@[go_sem] theorem bwl_22 (k off n c : Nat) (ty : TypeId) (cs : Array Bool) : dbuiltin Tryz.prog .len #[22] ty cs [.win k off n c] = some (True, .v (.int .i64 n)) := bu_wlen k off n c _ ty cs elT_22
@[go_sem] theorem bwc_22 (k off n c : Nat) (ty : TypeId) (cs : Array Bool) : dbuiltin Tryz.prog .cap #[22] ty cs [.win k off n c] = some (True, .v (.int .i64 c)) := bu_wcap k off n c _ ty cs elT_22
@[go_sem] theorem okT_23 : okT Tryz.prog 23 = true := by kernel_rfl
@[go_sem] theorem szOf_23 : szOf Tryz.prog 23 = 1 := by kernel_rfl
@[go_sem] theorem aggT_23 : aggT Tryz.prog 23 = false := by kernel_rfl
@[go_sem] theorem undS_23 : (Tryz.prog.underlying 23).isSome = true := by kernel_rfl
@[go_sem] theorem infS_23 : (Tryz.prog.info? 23).isSome = true := by kernel_rfl
@[go_sem] theorem ifaceT_23 : ifaceT Tryz.prog 23 = false := by kernel_rfl
@[go_sem] theorem ptrT_23 : ptrT Tryz.prog 23 = false := by kernel_rfl
@[go_sem] theorem zeroT_23 : zeroT Tryz.prog 23 = true := by kernel_rfl
@[go_sem] theorem zeroOk_23 : zeroOk Tryz.prog 23 = true := by kernel_rfl
@[go_sem] theorem bytesOf_23 : bytesOf Tryz.prog 23 = 24 := by kernel_rfl
@[go_sem] theorem zeroD_23 : zeroD Tryz.prog 23 = [.sl .full []] := by kernel_rfl
@[go_sem] theorem elT_23 : elT Tryz.prog 23 = some 25 := by kernel_rfl
@[go_sem] theorem bul_23 (own : Own) (es : List D) (ty : TypeId) (cs : Array Bool) : dbuiltin Tryz.prog .len #[23] ty cs [.sl own es] = some (True, .v (.int .i64 es.length)) := bu_len own es _ ty cs elT_23
@[go_sem] theorem bwl_23 (k off n c : Nat) (ty : TypeId) (cs : Array Bool) : dbuiltin Tryz.prog .len #[23] ty cs [.win k off n c] = some (True, .v (.int .i64 n)) := bu_wlen k off n c _ ty cs elT_23
@[go_sem] theorem bwc_23 (k off n c : Nat) (ty : TypeId) (cs : Array Bool) : dbuiltin Tryz.prog .cap #[23] ty cs [.win k off n c] = some (True, .v (.int .i64 c)) := bu_wcap k off n c _ ty cs elT_23
@[go_sem] theorem okT_25 : okT Tryz.prog 25 = true := by kernel_rfl
@[go_sem] theorem szOf_25 : szOf Tryz.prog 25 = 3 := by kernel_rfl
@[go_sem] theorem aggT_25 : aggT Tryz.prog 25 = true := by kernel_rfl
@[go_sem] theorem undS_25 : (Tryz.prog.underlying 25).isSome = true := by kernel_rfl
@[go_sem] theorem infS_25 : (Tryz.prog.info? 25).isSome = true := by kernel_rfl
@[go_sem] theorem ifaceT_25 : ifaceT Tryz.prog 25 = false := by kernel_rfl
@[go_sem] theorem ptrT_25 : ptrT Tryz.prog 25 = false := by kernel_rfl
@[go_sem] theorem zeroT_25 : zeroT Tryz.prog 25 = true := by kernel_rfl
@[go_sem] theorem zeroOk_25 : zeroOk Tryz.prog 25 = true := by kernel_rfl
@[go_sem] theorem bytesOf_25 : bytesOf Tryz.prog 25 = 56 := by kernel_rfl
@[go_sem] theorem zeroD_25 : zeroD Tryz.prog 25 = [.v (.int .i64 0), .sl .full [], .sl .full []] := by kernel_rfl
@[go_sem] theorem fld_25_0 : fld Tryz.prog 25 0 = some (0, 3) := by kernel_rfl
@[go_sem] theorem fld_25_1 : fld Tryz.prog 25 1 = some (1, 22) := by kernel_rfl
@[go_sem] theorem fld_25_2 : fld Tryz.prog 25 2 = some (2, 23) := by kernel_rfl
noncomputable def pl25 : Nat → Option (Nat × Nat) := (placeT Tryz.prog 25).getD fun _ => none
@[go_sem] theorem placeT_25 : placeT Tryz.prog 25 = some pl25 := by kernel_rfl
@[go_sem] theorem pl_25_0 : pl25 0 = some (0, 1) := by kernel_rfl
@[go_sem] theorem pl_25_1 : pl25 1 = some (1, 1) := by kernel_rfl
@[go_sem] theorem pl_25_2 : pl25 2 = some (2, 1) := by kernel_rfl
@[go_sem] theorem okT_26 : okT Tryz.prog 26 = true := by kernel_rfl
@[go_sem] theorem szOf_26 : szOf Tryz.prog 26 = 1 := by kernel_rfl
@[go_sem] theorem aggT_26 : aggT Tryz.prog 26 = false := by kernel_rfl
@[go_sem] theorem undS_26 : (Tryz.prog.underlying 26).isSome = true := by kernel_rfl
@[go_sem] theorem infS_26 : (Tryz.prog.info? 26).isSome = true := by kernel_rfl
@[go_sem] theorem ifaceT_26 : ifaceT Tryz.prog 26 = false := by kernel_rfl
@[go_sem] theorem ptrT_26 : ptrT Tryz.prog 26 = false := by kernel_rfl
@[go_sem] theorem zeroT_26 : zeroT Tryz.prog 26 = true := by kernel_rfl
@[go_sem] theorem zeroOk_26 : zeroOk Tryz.prog 26 = true := by kernel_rfl
@[go_sem] theorem bytesOf_26 : bytesOf Tryz.prog 26 = 24 := by kernel_rfl
@[go_sem] theorem zeroD_26 : zeroD Tryz.prog 26 = [.sl .full []] := by kernel_rfl
@[go_sem] theorem elT_26 : elT Tryz.prog 26 = some 69 := by kernel_rfl
@[go_sem] theorem okT_27 : okT Tryz.prog 27 = true := by kernel_rfl
@[go_sem] theorem szOf_27 : szOf Tryz.prog 27 = 1 := by kernel_rfl
@[go_sem] theorem aggT_27 : aggT Tryz.prog 27 = false := by kernel_rfl
@[go_sem] theorem undS_27 : (Tryz.prog.underlying 27).isSome = true := by kernel_rfl
@[go_sem] theorem infS_27 : (Tryz.prog.info? 27).isSome = true := by kernel_rfl
@[go_sem] theorem ifaceT_27 : ifaceT Tryz.prog 27 = false := by kernel_rfl
@[go_sem] theorem ptrT_27 : ptrT Tryz.prog 27 = false := by kernel_rfl
@[go_sem] theorem zeroT_27 : zeroT Tryz.prog 27 = true := by kernel_rfl
@[go_sem] theorem zeroOk_27 : zeroOk Tryz.prog 27 = true := by kernel_rfl
@[go_sem] theorem bytesOf_27 : bytesOf Tryz.prog 27 = 8 := by kernel_rfl
@[go_sem] theorem zeroD_27 : zeroD Tryz.prog 27 = [.v .nilFunc] := by kernel_rfl
@[go_sem] theorem okT_28 : okT Tryz.prog 28 = true := by kernel_rfl
@[go_sem] theorem szOf_28 : szOf Tryz.prog 28 = 1 := by kernel_rfl
@[go_sem] theorem aggT_28 : aggT Tryz.prog 28 = false := by kernel_rfl
@[go_sem] theorem undS_28 : (Tryz.prog.underlying 28).isSome = true := by kernel_rfl
@[go_sem] theorem infS_28 : (Tryz.prog.info? 28).isSome = true := by kernel_rfl
@[go_sem] theorem ifaceT_28 : ifaceT Tryz.prog 28 = false := by kernel_rfl
@[go_sem] theorem ptrT_28 : ptrT Tryz.prog 28 = false := by kernel_rfl
@[go_sem] theorem zeroT_28 : zeroT Tryz.prog 28 = true := by kernel_rfl
@[go_sem] theorem zeroOk_28 : zeroOk Tryz.prog 28 = true := by kernel_rfl
@[go_sem] theorem bytesOf_28 : bytesOf Tryz.prog 28 = 8 := by kernel_rfl
@[go_sem] theorem zeroD_28 : zeroD Tryz.prog 28 = [.v .nilFunc] := by kernel_rfl
@[go_sem] theorem okT_30 : okT Tryz.prog 30 = true := by kernel_rfl
@[go_sem] theorem szOf_30 : szOf Tryz.prog 30 = 1 := by kernel_rfl
@[go_sem] theorem aggT_30 : aggT Tryz.prog 30 = false := by kernel_rfl
@[go_sem] theorem undS_30 : (Tryz.prog.underlying 30).isSome = true := by kernel_rfl
@[go_sem] theorem infS_30 : (Tryz.prog.info? 30).isSome = true := by kernel_rfl
@[go_sem] theorem ifaceT_30 : ifaceT Tryz.prog 30 = false := by kernel_rfl
@[go_sem] theorem ptrT_30 : ptrT Tryz.prog 30 = true := by kernel_rfl
@[go_sem] theorem zeroT_30 : zeroT Tryz.prog 30 = true := by kernel_rfl
@[go_sem] theorem zeroOk_30 : zeroOk Tryz.prog 30 = true := by kernel_rfl
@[go_sem] theorem bytesOf_30 : bytesOf Tryz.prog 30 = 8 := by kernel_rfl
@[go_sem] theorem zeroD_30 : zeroD Tryz.prog 30 = [.v (.pointer none)] := by kernel_rfl
@[go_sem] theorem okT_31 : okT Tryz.prog 31 = true := by kernel_rfl
@[go_sem] theorem szOf_31 : szOf Tryz.prog 31 = 1 := by kernel_rfl
@[go_sem] theorem aggT_31 : aggT Tryz.prog 31 = false := by kernel_rfl
@[go_sem] theorem undS_31 : (Tryz.prog.underlying 31).isSome = true := by kernel_rfl
@[go_sem] theorem infS_31 : (Tryz.prog.info? 31).isSome = true := by kernel_rfl
@[go_sem] theorem ifaceT_31 : ifaceT Tryz.prog 31 = false := by kernel_rfl
@[go_sem] theorem ptrT_31 : ptrT Tryz.prog 31 = false := by kernel_rfl
@[go_sem] theorem zeroT_31 : zeroT Tryz.prog 31 = true := by kernel_rfl
@[go_sem] theorem zeroOk_31 : zeroOk Tryz.prog 31 = true := by kernel_rfl
@[go_sem] theorem bytesOf_31 : bytesOf Tryz.prog 31 = 24 := by kernel_rfl
@[go_sem] theorem zeroD_31 : zeroD Tryz.prog 31 = [.sl .full []] := by kernel_rfl
@[go_sem] theorem elT_31 : elT Tryz.prog 31 = some 49 := by kernel_rfl
@[go_sem] theorem okT_32 : okT Tryz.prog 32 = true := by kernel_rfl
@[go_sem] theorem szOf_32 : szOf Tryz.prog 32 = 1 := by kernel_rfl
@[go_sem] theorem aggT_32 : aggT Tryz.prog 32 = false := by kernel_rfl
@[go_sem] theorem undS_32 : (Tryz.prog.underlying 32).isSome = true := by kernel_rfl
@[go_sem] theorem infS_32 : (Tryz.prog.info? 32).isSome = true := by kernel_rfl
@[go_sem] theorem ifaceT_32 : ifaceT Tryz.prog 32 = false := by kernel_rfl
@[go_sem] theorem ptrT_32 : ptrT Tryz.prog 32 = false := by kernel_rfl
@[go_sem] theorem zeroT_32 : zeroT Tryz.prog 32 = true := by kernel_rfl
@[go_sem] theorem zeroOk_32 : zeroOk Tryz.prog 32 = true := by kernel_rfl
@[go_sem] theorem bytesOf_32 : bytesOf Tryz.prog 32 = 24 := by kernel_rfl
@[go_sem] theorem zeroD_32 : zeroD Tryz.prog 32 = [.sl .full []] := by kernel_rfl
@[go_sem] theorem elT_32 : elT Tryz.prog 32 = some 49 := by kernel_rfl
@[go_sem] theorem okT_34 : okT Tryz.prog 34 = true := by kernel_rfl
@[go_sem] theorem szOf_34 : szOf Tryz.prog 34 = 1 := by kernel_rfl
@[go_sem] theorem aggT_34 : aggT Tryz.prog 34 = false := by kernel_rfl
@[go_sem] theorem undS_34 : (Tryz.prog.underlying 34).isSome = true := by kernel_rfl
@[go_sem] theorem infS_34 : (Tryz.prog.info? 34).isSome = true := by kernel_rfl
@[go_sem] theorem ifaceT_34 : ifaceT Tryz.prog 34 = false := by kernel_rfl
@[go_sem] theorem ptrT_34 : ptrT Tryz.prog 34 = false := by kernel_rfl
@[go_sem] theorem zeroT_34 : zeroT Tryz.prog 34 = true := by kernel_rfl
@[go_sem] theorem zeroOk_34 : zeroOk Tryz.prog 34 = true := by kernel_rfl
@[go_sem] theorem bytesOf_34 : bytesOf Tryz.prog 34 = 8 := by kernel_rfl
@[go_sem] theorem zeroD_34 : zeroD Tryz.prog 34 = [.v .nilFunc] := by kernel_rfl
@[go_sem] theorem okT_35 : okT Tryz.prog 35 = true := by kernel_rfl
@[go_sem] theorem szOf_35 : szOf Tryz.prog 35 = 1 := by kernel_rfl
@[go_sem] theorem aggT_35 : aggT Tryz.prog 35 = false := by kernel_rfl
@[go_sem] theorem undS_35 : (Tryz.prog.underlying 35).isSome = true := by kernel_rfl
@[go_sem] theorem infS_35 : (Tryz.prog.info? 35).isSome = true := by kernel_rfl
@[go_sem] theorem ifaceT_35 : ifaceT Tryz.prog 35 = false := by kernel_rfl
@[go_sem] theorem ptrT_35 : ptrT Tryz.prog 35 = false := by kernel_rfl
@[go_sem] theorem zeroT_35 : zeroT Tryz.prog 35 = true := by kernel_rfl
@[go_sem] theorem zeroOk_35 : zeroOk Tryz.prog 35 = true := by kernel_rfl
@[go_sem] theorem bytesOf_35 : bytesOf Tryz.prog 35 = 24 := by kernel_rfl
@[go_sem] theorem zeroD_35 : zeroD Tryz.prog 35 = [.sl .full []] := by kernel_rfl
@[go_sem] theorem elT_35 : elT Tryz.prog 35 = some 39 := by kernel_rfl
@[go_sem] theorem bul_35 (own : Own) (es : List D) (ty : TypeId) (cs : Array Bool) : dbuiltin Tryz.prog .len #[35] ty cs [.sl own es] = some (True, .v (.int .i64 es.length)) := bu_len own es _ ty cs elT_35
@[go_sem] theorem okT_37 : okT Tryz.prog 37 = true := by kernel_rfl
@[go_sem] theorem szOf_37 : szOf Tryz.prog 37 = 1 := by kernel_rfl
@[go_sem] theorem aggT_37 : aggT Tryz.prog 37 = false := by kernel_rfl
@[go_sem] theorem undS_37 : (Tryz.prog.underlying 37).isSome = true := by kernel_rfl
@[go_sem] theorem infS_37 : (Tryz.prog.info? 37).isSome = true := by kernel_rfl
@[go_sem] theorem ifaceT_37 : ifaceT Tryz.prog 37 = false := by kernel_rfl
@[go_sem] theorem ptrT_37 : ptrT Tryz.prog 37 = false := by kernel_rfl
@[go_sem] theorem zeroT_37 : zeroT Tryz.prog 37 = true := by kernel_rfl
@[go_sem] theorem zeroOk_37 : zeroOk Tryz.prog 37 = true := by kernel_rfl
@[go_sem] theorem bytesOf_37 : bytesOf Tryz.prog 37 = 8 := by kernel_rfl
@[go_sem] theorem zeroD_37 : zeroD Tryz.prog 37 = [.v .nilFunc] := by kernel_rfl
@[go_sem] theorem okT_38 : okT Tryz.prog 38 = true := by kernel_rfl
@[go_sem] theorem szOf_38 : szOf Tryz.prog 38 = 32 := by kernel_rfl
@[go_sem] theorem aggT_38 : aggT Tryz.prog 38 = true := by kernel_rfl
@[go_sem] theorem undS_38 : (Tryz.prog.underlying 38).isSome = true := by kernel_rfl
@[go_sem] theorem infS_38 : (Tryz.prog.info? 38).isSome = true := by kernel_rfl
@[go_sem] theorem ifaceT_38 : ifaceT Tryz.prog 38 = false := by kernel_rfl
@[go_sem] theorem ptrT_38 : ptrT Tryz.prog 38 = false := by kernel_rfl
@[go_sem] theorem zeroT_38 : zeroT Tryz.prog 38 = true := by kernel_rfl
@[go_sem] theorem zeroOk_38 : zeroOk Tryz.prog 38 = true := by kernel_rfl
@[go_sem] theorem bytesOf_38 : bytesOf Tryz.prog 38 = 32 := by kernel_rfl
@[go_sem] theorem zeroD_38 : zeroD Tryz.prog 38 = [.v (.int .u8 0), .v (.int .u8 0), .v (.int .u8 0), .v (.int .u8 0), .v (.int .u8 0), .v (.int .u8 0), .v (.int .u8 0), .v (.int .u8 0), .v (.int .u8 0), .v (.int .u8 0), .v (.int .u8 0), .v (.int .u8 0), .v (.int .u8 0), .v (.int .u8 0), .v (.int .u8 0), .v (.int .u8 0), .v (.int .u8 0), .v (.int .u8 0), .v (.int .u8 0), .v (.int .u8 0), .v (.int .u8 0), .v (.int .u8 0), .v (.int .u8 0), .v (.int .u8 0), .v (.int .u8 0), .v (.int .u8 0), .v (.int .u8 0), .v (.int .u8 0), .v (.int .u8 0), .v (.int .u8 0), .v (.int .u8 0), .v (.int .u8 0)] := by kernel_rfl
@[go_sem] theorem arT_38 : arT Tryz.prog 38 = some (32, 5) := by kernel_rfl
@[go_sem] theorem okT_39 : okT Tryz.prog 39 = true := by kernel_rfl
@[go_sem] theorem szOf_39 : szOf Tryz.prog 39 = 32 := by kernel_rfl
@[go_sem] theorem aggT_39 : aggT Tryz.prog 39 = true := by kernel_rfl
@[go_sem] theorem undS_39 : (Tryz.prog.underlying 39).isSome = true := by kernel_rfl
@[go_sem] theorem infS_39 : (Tryz.prog.info? 39).isSome = true := by kernel_rfl
@[go_sem] theorem ifaceT_39 : ifaceT Tryz.prog 39 = false := by kernel_rfl
@[go_sem] theorem ptrT_39 : ptrT Tryz.prog 39 = false := by kernel_rfl
@[go_sem] theorem zeroT_39 : zeroT Tryz.prog 39 = true := by kernel_rfl
@[go_sem] theorem zeroOk_39 : zeroOk Tryz.prog 39 = true := by kernel_rfl
@[go_sem] theorem bytesOf_39 : bytesOf Tryz.prog 39 = 32 := by kernel_rfl
@[go_sem] theorem zeroD_39 : zeroD Tryz.prog 39 = [.v (.int .u8 0), .v (.int .u8 0), .v (.int .u8 0), .v (.int .u8 0), .v (.int .u8 0), .v (.int .u8 0), .v (.int .u8 0), .v (.int .u8 0), .v (.int .u8 0), .v (.int .u8 0), .v (.int .u8 0), .v (.int .u8 0), .v (.int .u8 0), .v (.int .u8 0), .v (.int .u8 0), .v (.int .u8 0), .v (.int .u8 0), .v (.int .u8 0), .v (.int .u8 0), .v (.int .u8 0), .v (.int .u8 0), .v (.int .u8 0), .v (.int .u8 0), .v (.int .u8 0), .v (.int .u8 0), .v (.int .u8 0), .v (.int .u8 0), .v (.int .u8 0), .v (.int .u8 0), .v (.int .u8 0), .v (.int .u8 0), .v (.int .u8 0)] := by kernel_rfl
@[go_sem] theorem arT_39 : arT Tryz.prog 39 = some (32, 5) := by kernel_rfl
@[go_sem] theorem okT_40 : okT Tryz.prog 40 = true := by kernel_rfl
@[go_sem] theorem szOf_40 : szOf Tryz.prog 40 = 1 := by kernel_rfl
@[go_sem] theorem aggT_40 : aggT Tryz.prog 40 = false := by kernel_rfl
@[go_sem] theorem undS_40 : (Tryz.prog.underlying 40).isSome = true := by kernel_rfl
@[go_sem] theorem infS_40 : (Tryz.prog.info? 40).isSome = true := by kernel_rfl
@[go_sem] theorem ifaceT_40 : ifaceT Tryz.prog 40 = false := by kernel_rfl
@[go_sem] theorem ptrT_40 : ptrT Tryz.prog 40 = false := by kernel_rfl
@[go_sem] theorem zeroT_40 : zeroT Tryz.prog 40 = true := by kernel_rfl
@[go_sem] theorem zeroOk_40 : zeroOk Tryz.prog 40 = true := by kernel_rfl
@[go_sem] theorem bytesOf_40 : bytesOf Tryz.prog 40 = 24 := by kernel_rfl
@[go_sem] theorem zeroD_40 : zeroD Tryz.prog 40 = [.sl .full []] := by kernel_rfl
@[go_sem] theorem elT_40 : elT Tryz.prog 40 = some 122 := by kernel_rfl
@[go_sem] theorem bul_40 (own : Own) (es : List D) (ty : TypeId) (cs : Array Bool) : dbuiltin Tryz.prog .len #[40] ty cs [.sl own es] = some (True, .v (.int .i64 es.length)) := bu_len own es _ ty cs elT_40
@[go_sem] theorem okT_41 : okT Tryz.prog 41 = true := by kernel_rfl
@[go_sem] theorem szOf_41 : szOf Tryz.prog 41 = 1 := by kernel_rfl
@[go_sem] theorem aggT_41 : aggT Tryz.prog 41 = false := by kernel_rfl
@[go_sem] theorem undS_41 : (Tryz.prog.underlying 41).isSome = true := by kernel_rfl
@[go_sem] theorem infS_41 : (Tryz.prog.info? 41).isSome = true := by kernel_rfl
@[go_sem] theorem ifaceT_41 : ifaceT Tryz.prog 41 = false := by kernel_rfl
@[go_sem] theorem ptrT_41 : ptrT Tryz.prog 41 = false := by kernel_rfl
@[go_sem] theorem zeroT_41 : zeroT Tryz.prog 41 = true := by kernel_rfl
@[go_sem] theorem zeroOk_41 : zeroOk Tryz.prog 41 = true := by kernel_rfl
@[go_sem] theorem bytesOf_41 : bytesOf Tryz.prog 41 = 24 := by kernel_rfl
@[go_sem] theorem zeroD_41 : zeroD Tryz.prog 41 = [.sl .full []] := by kernel_rfl
@[go_sem] theorem elT_41 : elT Tryz.prog 41 = some 43 := by kernel_rfl
@[go_sem] theorem bul_41 (own : Own) (es : List D) (ty : TypeId) (cs : Array Bool) : dbuiltin Tryz.prog .len #[41] ty cs [.sl own es] = some (True, .v (.int .i64 es.length)) := bu_len own es _ ty cs elT_41
@[go_sem] theorem okT_42 : okT Tryz.prog 42 = true := by kernel_rfl
@[go_sem] theorem szOf_42 : szOf Tryz.prog 42 = 6 := by kernel_rfl
@[go_sem] theorem aggT_42 : aggT Tryz.prog 42 = true := by kernel_rfl
@[go_sem] theorem undS_42 : (Tryz.prog.underlying 42).isSome = true := by kernel_rfl
@[go_sem] theorem infS_42 : (Tryz.prog.info? 42).isSome = true := by kernel_rfl
@[go_sem] theorem ifaceT_42 : ifaceT Tryz.prog 42 = false := by kernel_rfl
@[go_sem] theorem ptrT_42 : ptrT Tryz.prog 42 = false := by kernel_rfl
@[go_sem] theorem zeroT_42 : zeroT Tryz.prog 42 = true := by kernel_rfl
@[go_sem] theorem zeroOk_42 : zeroOk Tryz.prog 42 = true := by kernel_rfl
@[go_sem] theorem bytesOf_42 : bytesOf Tryz.prog 42 = 104 := by kernel_rfl
@[go_sem] theorem zeroD_42 : zeroD Tryz.prog 42 = [.v (.int .i64 0), .v (.int .i64 0), .v (.string ⟨#[]⟩), .sl .full [], .sl .full [], .sl .full []] := by kernel_rfl
@[go_sem] theorem fld_42_0 : fld Tryz.prog 42 0 = some (0, 3) := by kernel_rfl
@[go_sem] theorem fld_42_1 : fld Tryz.prog 42 1 = some (1, 3) := by kernel_rfl
@[go_sem] theorem fld_42_2 : fld Tryz.prog 42 2 = some (2, 9) := by kernel_rfl
@[go_sem] theorem fld_42_3 : fld Tryz.prog 42 3 = some (3, 22) := by kernel_rfl
@[go_sem] theorem fld_42_4 : fld Tryz.prog 42 4 = some (4, 40) := by kernel_rfl
@[go_sem] theorem fld_42_5 : fld Tryz.prog 42 5 = some (5, 41) := by kernel_rfl
@[go_sem] theorem okT_43 : okT Tryz.prog 43 = true := by kernel_rfl
@[go_sem] theorem szOf_43 : szOf Tryz.prog 43 = 6 := by kernel_rfl
@[go_sem] theorem aggT_43 : aggT Tryz.prog 43 = true := by kernel_rfl
@[go_sem] theorem undS_43 : (Tryz.prog.underlying 43).isSome = true := by kernel_rfl
@[go_sem] theorem infS_43 : (Tryz.prog.info? 43).isSome = true := by kernel_rfl
@[go_sem] theorem ifaceT_43 : ifaceT Tryz.prog 43 = false := by kernel_rfl
@[go_sem] theorem ptrT_43 : ptrT Tryz.prog 43 = false := by kernel_rfl
@[go_sem] theorem zeroT_43 : zeroT Tryz.prog 43 = true := by kernel_rfl
@[go_sem] theorem zeroOk_43 : zeroOk Tryz.prog 43 = true := by kernel_rfl
@[go_sem] theorem bytesOf_43 : bytesOf Tryz.prog 43 = 104 := by kernel_rfl
@[go_sem] theorem zeroD_43 : zeroD Tryz.prog 43 = [.v (.int .i64 0), .v (.int .i64 0), .v (.string ⟨#[]⟩), .sl .full [], .sl .full [], .sl .full []] := by kernel_rfl
@[go_sem] theorem fld_43_0 : fld Tryz.prog 43 0 = some (0, 3) := by kernel_rfl
@[go_sem] theorem fld_43_1 : fld Tryz.prog 43 1 = some (1, 3) := by kernel_rfl
@[go_sem] theorem fld_43_2 : fld Tryz.prog 43 2 = some (2, 9) := by kernel_rfl
@[go_sem] theorem fld_43_3 : fld Tryz.prog 43 3 = some (3, 22) := by kernel_rfl
@[go_sem] theorem fld_43_4 : fld Tryz.prog 43 4 = some (4, 40) := by kernel_rfl
@[go_sem] theorem fld_43_5 : fld Tryz.prog 43 5 = some (5, 41) := by kernel_rfl
noncomputable def pl43 : Nat → Option (Nat × Nat) := (placeT Tryz.prog 43).getD fun _ => none
@[go_sem] theorem placeT_43 : placeT Tryz.prog 43 = some pl43 := by kernel_rfl
@[go_sem] theorem pl_43_0 : pl43 0 = some (0, 1) := by kernel_rfl
@[go_sem] theorem pl_43_1 : pl43 1 = some (1, 1) := by kernel_rfl
@[go_sem] theorem pl_43_2 : pl43 2 = some (2, 1) := by kernel_rfl
@[go_sem] theorem pl_43_3 : pl43 3 = some (3, 1) := by kernel_rfl
@[go_sem] theorem pl_43_4 : pl43 4 = some (4, 1) := by kernel_rfl
@[go_sem] theorem pl_43_5 : pl43 5 = some (5, 1) := by kernel_rfl
@[go_sem] theorem okT_44 : okT Tryz.prog 44 = true := by kernel_rfl
@[go_sem] theorem szOf_44 : szOf Tryz.prog 44 = 1 := by kernel_rfl
@[go_sem] theorem aggT_44 : aggT Tryz.prog 44 = false := by kernel_rfl
@[go_sem] theorem undS_44 : (Tryz.prog.underlying 44).isSome = true := by kernel_rfl
@[go_sem] theorem infS_44 : (Tryz.prog.info? 44).isSome = true := by kernel_rfl
@[go_sem] theorem ifaceT_44 : ifaceT Tryz.prog 44 = false := by kernel_rfl
@[go_sem] theorem ptrT_44 : ptrT Tryz.prog 44 = false := by kernel_rfl
@[go_sem] theorem zeroT_44 : zeroT Tryz.prog 44 = true := by kernel_rfl
@[go_sem] theorem zeroOk_44 : zeroOk Tryz.prog 44 = true := by kernel_rfl
@[go_sem] theorem bytesOf_44 : bytesOf Tryz.prog 44 = 24 := by kernel_rfl
@[go_sem] theorem zeroD_44 : zeroD Tryz.prog 44 = [.sl .full []] := by kernel_rfl
@[go_sem] theorem elT_44 : elT Tryz.prog 44 = some 111 := by kernel_rfl
@[go_sem] theorem bul_44 (own : Own) (es : List D) (ty : TypeId) (cs : Array Bool) : dbuiltin Tryz.prog .len #[44] ty cs [.sl own es] = some (True, .v (.int .i64 es.length)) := bu_len own es _ ty cs elT_44
@[go_sem] theorem okT_45 : okT Tryz.prog 45 = true := by kernel_rfl
@[go_sem] theorem szOf_45 : szOf Tryz.prog 45 = 1 := by kernel_rfl
@[go_sem] theorem aggT_45 : aggT Tryz.prog 45 = false := by kernel_rfl
@[go_sem] theorem undS_45 : (Tryz.prog.underlying 45).isSome = true := by kernel_rfl
@[go_sem] theorem infS_45 : (Tryz.prog.info? 45).isSome = true := by kernel_rfl
@[go_sem] theorem ifaceT_45 : ifaceT Tryz.prog 45 = false := by kernel_rfl
@[go_sem] theorem ptrT_45 : ptrT Tryz.prog 45 = false := by kernel_rfl
@[go_sem] theorem zeroT_45 : zeroT Tryz.prog 45 = true := by kernel_rfl
@[go_sem] theorem zeroOk_45 : zeroOk Tryz.prog 45 = true := by kernel_rfl
@[go_sem] theorem bytesOf_45 : bytesOf Tryz.prog 45 = 24 := by kernel_rfl
@[go_sem] theorem zeroD_45 : zeroD Tryz.prog 45 = [.sl .full []] := by kernel_rfl
@[go_sem] theorem elT_45 : elT Tryz.prog 45 = some 47 := by kernel_rfl
@[go_sem] theorem bul_45 (own : Own) (es : List D) (ty : TypeId) (cs : Array Bool) : dbuiltin Tryz.prog .len #[45] ty cs [.sl own es] = some (True, .v (.int .i64 es.length)) := bu_len own es _ ty cs elT_45
@[go_sem] theorem okT_47 : okT Tryz.prog 47 = true := by kernel_rfl
@[go_sem] theorem szOf_47 : szOf Tryz.prog 47 = 20 := by kernel_rfl
@[go_sem] theorem aggT_47 : aggT Tryz.prog 47 = true := by kernel_rfl
@[go_sem] theorem undS_47 : (Tryz.prog.underlying 47).isSome = true := by kernel_rfl
@[go_sem] theorem infS_47 : (Tryz.prog.info? 47).isSome = true := by kernel_rfl
@[go_sem] theorem ifaceT_47 : ifaceT Tryz.prog 47 = false := by kernel_rfl
@[go_sem] theorem ptrT_47 : ptrT Tryz.prog 47 = false := by kernel_rfl
@[go_sem] theorem zeroT_47 : zeroT Tryz.prog 47 = true := by kernel_rfl
@[go_sem] theorem zeroOk_47 : zeroOk Tryz.prog 47 = true := by kernel_rfl
@[go_sem] theorem bytesOf_47 : bytesOf Tryz.prog 47 = 352 := by kernel_rfl
@[go_sem] theorem zeroD_47 : zeroD Tryz.prog 47 = [.v (.int .i64 0), .v (.string ⟨#[]⟩), .v (.string ⟨#[]⟩), .v (.int .i64 0), .sl .full [], .sl .full [], .v (.int .i64 0), .v (.int .i64 0), .v (.string ⟨#[]⟩), .sl .full [], .sl .full [], .sl .full [], .v (.int .i64 0), .v (.int .i64 0), .v (.string ⟨#[]⟩), .sl .full [], .sl .full [], .sl .full [], .sl .full [], .sl .full []] := by kernel_rfl
@[go_sem] theorem fld_47_0 : fld Tryz.prog 47 0 = some (0, 3) := by kernel_rfl
@[go_sem] theorem fld_47_1 : fld Tryz.prog 47 1 = some (1, 9) := by kernel_rfl
@[go_sem] theorem fld_47_2 : fld Tryz.prog 47 2 = some (2, 9) := by kernel_rfl
@[go_sem] theorem fld_47_3 : fld Tryz.prog 47 3 = some (3, 25) := by kernel_rfl
@[go_sem] theorem fld_47_4 : fld Tryz.prog 47 4 = some (6, 43) := by kernel_rfl
@[go_sem] theorem fld_47_5 : fld Tryz.prog 47 5 = some (12, 43) := by kernel_rfl
@[go_sem] theorem fld_47_6 : fld Tryz.prog 47 6 = some (18, 44) := by kernel_rfl
@[go_sem] theorem fld_47_7 : fld Tryz.prog 47 7 = some (19, 45) := by kernel_rfl
noncomputable def pl47 : Nat → Option (Nat × Nat) := (placeT Tryz.prog 47).getD fun _ => none
@[go_sem] theorem placeT_47 : placeT Tryz.prog 47 = some pl47 := by kernel_rfl
@[go_sem] theorem pl_47_0 : pl47 0 = some (0, 1) := by kernel_rfl
@[go_sem] theorem pl_47_1 : pl47 1 = some (1, 1) := by kernel_rfl
@[go_sem] theorem pl_47_2 : pl47 2 = some (2, 1) := by kernel_rfl
@[go_sem] theorem pl_47_3 : pl47 3 = some (3, 3) := by kernel_rfl
@[go_sem] theorem pl_47_4 : pl47 4 = some (6, 6) := by kernel_rfl
@[go_sem] theorem pl_47_5 : pl47 5 = some (12, 6) := by kernel_rfl
@[go_sem] theorem pl_47_6 : pl47 6 = some (18, 1) := by kernel_rfl
@[go_sem] theorem pl_47_7 : pl47 7 = some (19, 1) := by kernel_rfl
@[go_sem] theorem okT_49 : okT Tryz.prog 49 = true := by kernel_rfl
@[go_sem] theorem szOf_49 : szOf Tryz.prog 49 = 87 := by kernel_rfl
@[go_sem] theorem aggT_49 : aggT Tryz.prog 49 = true := by kernel_rfl
@[go_sem] theorem undS_49 : (Tryz.prog.underlying 49).isSome = true := by kernel_rfl
@[go_sem] theorem infS_49 : (Tryz.prog.info? 49).isSome = true := by kernel_rfl
@[go_sem] theorem ifaceT_49 : ifaceT Tryz.prog 49 = false := by kernel_rfl
@[go_sem] theorem ptrT_49 : ptrT Tryz.prog 49 = false := by kernel_rfl
@[go_sem] theorem zeroT_49 : zeroT Tryz.prog 49 = true := by kernel_rfl
@[go_sem] theorem zeroOk_49 : zeroOk Tryz.prog 49 = true := by kernel_rfl
@[go_sem] theorem bytesOf_49 : bytesOf Tryz.prog 49 = 472 := by kernel_rfl
@[go_sem] theorem zeroD_49 : zeroD Tryz.prog 49 = [.v (.int .u8 0), .v (.int .u8 0), .v (.int .u8 0), .v (.int .u8 0), .v (.int .u8 0), .v (.int .u8 0), .v (.int .u8 0), .v (.int .u8 0), .v (.int .u8 0), .v (.int .u8 0), .v (.int .u8 0), .v (.int .u8 0), .v (.int .u8 0), .v (.int .u8 0), .v (.int .u8 0), .v (.int .u8 0), .v (.int .u8 0), .v (.int .u8 0), .v (.int .u8 0), .v (.int .u8 0), .v (.int .u8 0), .v (.int .u8 0), .v (.int .u8 0), .v (.int .u8 0), .v (.int .u8 0), .v (.int .u8 0), .v (.int .u8 0), .v (.int .u8 0), .v (.int .u8 0), .v (.int .u8 0), .v (.int .u8 0), .v (.int .u8 0), .v (.int .u8 0), .v (.int .u8 0), .v (.int .u8 0), .v (.int .u8 0), .v (.int .u8 0), .v (.int .u8 0), .v (.int .u8 0), .v (.int .u8 0), .v (.int .u8 0), .v (.int .u8 0), .v (.int .u8 0), .v (.int .u8 0), .v (.int .u8 0), .v (.int .u8 0), .v (.int .u8 0), .v (.int .u8 0), .v (.int .u8 0), .v (.int .u8 0), .v (.int .u8 0), .v (.int .u8 0), .v (.int .u8 0), .v (.int .u8 0), .v (.int .u8 0), .v (.int .u8 0), .v (.int .u8 0), .v (.int .u8 0), .v (.int .u8 0), .v (.int .u8 0), .v (.int .u8 0), .v (.int .u8 0), .v (.int .u8 0), .v (.int .u8 0), .v (.int .i64 0), .v (.string ⟨#[]⟩), .v (.string ⟨#[]⟩), .v (.int .i64 0), .sl .full [], .sl .full [], .v (.int .i64 0), .v (.int .i64 0), .v (.string ⟨#[]⟩), .sl .full [], .sl .full [], .sl .full [], .v (.int .i64 0), .v (.int .i64 0), .v (.string ⟨#[]⟩), .sl .full [], .sl .full [], .sl .full [], .sl .full [], .sl .full [], .v (.int .i64 0), .sl .full [], .sl .full []] := by kernel_rfl
@[go_sem] theorem fld_49_0 : fld Tryz.prog 49 0 = some (0, 39) := by kernel_rfl
@[go_sem] theorem fld_49_1 : fld Tryz.prog 49 1 = some (32, 39) := by kernel_rfl
@[go_sem] theorem fld_49_2 : fld Tryz.prog 49 2 = some (64, 47) := by kernel_rfl
@[go_sem] theorem fld_49_3 : fld Tryz.prog 49 3 = some (84, 25) := by kernel_rfl
@[go_sem] theorem okT_52 : okT Tryz.prog 52 = true := by kernel_rfl
@[go_sem] theorem szOf_52 : szOf Tryz.prog 52 = 1 := by kernel_rfl
@[go_sem] theorem aggT_52 : aggT Tryz.prog 52 = false := by kernel_rfl
@[go_sem] theorem undS_52 : (Tryz.prog.underlying 52).isSome = true := by kernel_rfl
@[go_sem] theorem infS_52 : (Tryz.prog.info? 52).isSome = true := by kernel_rfl
@[go_sem] theorem ifaceT_52 : ifaceT Tryz.prog 52 = false := by kernel_rfl
@[go_sem] theorem ptrT_52 : ptrT Tryz.prog 52 = false := by kernel_rfl
@[go_sem] theorem zeroT_52 : zeroT Tryz.prog 52 = true := by kernel_rfl
@[go_sem] theorem zeroOk_52 : zeroOk Tryz.prog 52 = true := by kernel_rfl
@[go_sem] theorem bytesOf_52 : bytesOf Tryz.prog 52 = 24 := by kernel_rfl
@[go_sem] theorem zeroD_52 : zeroD Tryz.prog 52 = [.sl .full []] := by kernel_rfl
@[go_sem] theorem elT_52 : elT Tryz.prog 52 = some 59 := by kernel_rfl
@[go_sem] theorem bul_52 (own : Own) (es : List D) (ty : TypeId) (cs : Array Bool) : dbuiltin Tryz.prog .len #[52] ty cs [.sl own es] = some (True, .v (.int .i64 es.length)) := bu_len own es _ ty cs elT_52
@[go_sem] theorem okT_54 : okT Tryz.prog 54 = true := by kernel_rfl
@[go_sem] theorem szOf_54 : szOf Tryz.prog 54 = 1 := by kernel_rfl
@[go_sem] theorem aggT_54 : aggT Tryz.prog 54 = false := by kernel_rfl
@[go_sem] theorem undS_54 : (Tryz.prog.underlying 54).isSome = true := by kernel_rfl
@[go_sem] theorem infS_54 : (Tryz.prog.info? 54).isSome = true := by kernel_rfl
@[go_sem] theorem ifaceT_54 : ifaceT Tryz.prog 54 = false := by kernel_rfl
@[go_sem] theorem ptrT_54 : ptrT Tryz.prog 54 = false := by kernel_rfl
@[go_sem] theorem zeroT_54 : zeroT Tryz.prog 54 = true := by kernel_rfl
@[go_sem] theorem zeroOk_54 : zeroOk Tryz.prog 54 = true := by kernel_rfl
@[go_sem] theorem bytesOf_54 : bytesOf Tryz.prog 54 = 24 := by kernel_rfl
@[go_sem] theorem zeroD_54 : zeroD Tryz.prog 54 = [.sl .full []] := by kernel_rfl
@[go_sem] theorem elT_54 : elT Tryz.prog 54 = some 57 := by kernel_rfl
@[go_sem] theorem okT_57 : okT Tryz.prog 57 = true := by kernel_rfl
@[go_sem] theorem szOf_57 : szOf Tryz.prog 57 = 2 := by kernel_rfl
@[go_sem] theorem aggT_57 : aggT Tryz.prog 57 = true := by kernel_rfl
@[go_sem] theorem undS_57 : (Tryz.prog.underlying 57).isSome = true := by kernel_rfl
@[go_sem] theorem infS_57 : (Tryz.prog.info? 57).isSome = true := by kernel_rfl
@[go_sem] theorem ifaceT_57 : ifaceT Tryz.prog 57 = false := by kernel_rfl
@[go_sem] theorem ptrT_57 : ptrT Tryz.prog 57 = false := by kernel_rfl
@[go_sem] theorem zeroT_57 : zeroT Tryz.prog 57 = true := by kernel_rfl
@[go_sem] theorem zeroOk_57 : zeroOk Tryz.prog 57 = true := by kernel_rfl
@[go_sem] theorem bytesOf_57 : bytesOf Tryz.prog 57 = 16 := by kernel_rfl
@[go_sem] theorem zeroD_57 : zeroD Tryz.prog 57 = [.v (.int .i64 0), .v (.int .i64 0)] := by kernel_rfl
@[go_sem] theorem fld_57_0 : fld Tryz.prog 57 0 = some (0, 3) := by kernel_rfl
@[go_sem] theorem fld_57_1 : fld Tryz.prog 57 1 = some (1, 3) := by kernel_rfl
@[go_sem] theorem okT_59 : okT Tryz.prog 59 = true := by kernel_rfl
@[go_sem] theorem szOf_59 : szOf Tryz.prog 59 = 65 := by kernel_rfl
@[go_sem] theorem aggT_59 : aggT Tryz.prog 59 = true := by kernel_rfl
@[go_sem] theorem undS_59 : (Tryz.prog.underlying 59).isSome = true := by kernel_rfl
@[go_sem] theorem infS_59 : (Tryz.prog.info? 59).isSome = true := by kernel_rfl
@[go_sem] theorem ifaceT_59 : ifaceT Tryz.prog 59 = false := by kernel_rfl
@[go_sem] theorem ptrT_59 : ptrT Tryz.prog 59 = false := by kernel_rfl
@[go_sem] theorem zeroT_59 : zeroT Tryz.prog 59 = true := by kernel_rfl
@[go_sem] theorem zeroOk_59 : zeroOk Tryz.prog 59 = true := by kernel_rfl
@[go_sem] theorem bytesOf_59 : bytesOf Tryz.prog 59 = 65 := by kernel_rfl
@[go_sem] theorem zeroD_59 : zeroD Tryz.prog 59 = [.v (.int .u8 0), .v (.int .u8 0), .v (.int .u8 0), .v (.int .u8 0), .v (.int .u8 0), .v (.int .u8 0), .v (.int .u8 0), .v (.int .u8 0), .v (.int .u8 0), .v (.int .u8 0), .v (.int .u8 0), .v (.int .u8 0), .v (.int .u8 0), .v (.int .u8 0), .v (.int .u8 0), .v (.int .u8 0), .v (.int .u8 0), .v (.int .u8 0), .v (.int .u8 0), .v (.int .u8 0), .v (.int .u8 0), .v (.int .u8 0), .v (.int .u8 0), .v (.int .u8 0), .v (.int .u8 0), .v (.int .u8 0), .v (.int .u8 0), .v (.int .u8 0), .v (.int .u8 0), .v (.int .u8 0), .v (.int .u8 0), .v (.int .u8 0), .v (.int .u8 0), .v (.int .u8 0), .v (.int .u8 0), .v (.int .u8 0), .v (.int .u8 0), .v (.int .u8 0), .v (.int .u8 0), .v (.int .u8 0), .v (.int .u8 0), .v (.int .u8 0), .v (.int .u8 0), .v (.int .u8 0), .v (.int .u8 0), .v (.int .u8 0), .v (.int .u8 0), .v (.int .u8 0), .v (.int .u8 0), .v (.int .u8 0), .v (.int .u8 0), .v (.int .u8 0), .v (.int .u8 0), .v (.int .u8 0), .v (.int .u8 0), .v (.int .u8 0), .v (.int .u8 0), .v (.int .u8 0), .v (.int .u8 0), .v (.int .u8 0), .v (.int .u8 0), .v (.int .u8 0), .v (.int .u8 0), .v (.int .u8 0), .v (.bool false)] := by kernel_rfl
@[go_sem] theorem fld_59_0 : fld Tryz.prog 59 0 = some (0, 39) := by kernel_rfl
@[go_sem] theorem fld_59_1 : fld Tryz.prog 59 1 = some (32, 39) := by kernel_rfl
@[go_sem] theorem fld_59_2 : fld Tryz.prog 59 2 = some (64, 4) := by kernel_rfl
noncomputable def pl59 : Nat → Option (Nat × Nat) := (placeT Tryz.prog 59).getD fun _ => none
@[go_sem] theorem placeT_59 : placeT Tryz.prog 59 = some pl59 := by kernel_rfl
@[go_sem] theorem pl_59_0 : pl59 0 = some (0, 32) := by kernel_rfl
@[go_sem] theorem pl_59_1 : pl59 1 = some (32, 32) := by kernel_rfl
@[go_sem] theorem pl_59_2 : pl59 2 = some (64, 1) := by kernel_rfl
@[go_sem] theorem okT_66 : okT Tryz.prog 66 = true := by kernel_rfl
@[go_sem] theorem szOf_66 : szOf Tryz.prog 66 = 1 := by kernel_rfl
@[go_sem] theorem aggT_66 : aggT Tryz.prog 66 = false := by kernel_rfl
@[go_sem] theorem undS_66 : (Tryz.prog.underlying 66).isSome = true := by kernel_rfl
@[go_sem] theorem infS_66 : (Tryz.prog.info? 66).isSome = true := by kernel_rfl
@[go_sem] theorem ifaceT_66 : ifaceT Tryz.prog 66 = true := by kernel_rfl
@[go_sem] theorem ptrT_66 : ptrT Tryz.prog 66 = false := by kernel_rfl
@[go_sem] theorem zeroT_66 : zeroT Tryz.prog 66 = true := by kernel_rfl
@[go_sem] theorem zeroOk_66 : zeroOk Tryz.prog 66 = true := by kernel_rfl
@[go_sem] theorem bytesOf_66 : bytesOf Tryz.prog 66 = 16 := by kernel_rfl
@[go_sem] theorem zeroD_66 : zeroD Tryz.prog 66 = [.v .nilIface] := by kernel_rfl
@[go_sem] theorem okT_69 : okT Tryz.prog 69 = true := by kernel_rfl
@[go_sem] theorem szOf_69 : szOf Tryz.prog 69 = 53 := by kernel_rfl
@[go_sem] theorem aggT_69 : aggT Tryz.prog 69 = true := by kernel_rfl
@[go_sem] theorem undS_69 : (Tryz.prog.underlying 69).isSome = true := by kernel_rfl
@[go_sem] theorem infS_69 : (Tryz.prog.info? 69).isSome = true := by kernel_rfl
@[go_sem] theorem ifaceT_69 : ifaceT Tryz.prog 69 = false := by kernel_rfl
@[go_sem] theorem ptrT_69 : ptrT Tryz.prog 69 = false := by kernel_rfl
@[go_sem] theorem zeroT_69 : zeroT Tryz.prog 69 = true := by kernel_rfl
@[go_sem] theorem zeroOk_69 : zeroOk Tryz.prog 69 = true := by kernel_rfl
@[go_sem] theorem bytesOf_69 : bytesOf Tryz.prog 69 = 392 := by kernel_rfl
@[go_sem] theorem zeroD_69 : zeroD Tryz.prog 69 = [.v (.int .u8 0), .v (.int .u8 0), .v (.int .u8 0), .v (.int .u8 0), .v (.int .u8 0), .v (.int .u8 0), .v (.int .u8 0), .v (.int .u8 0), .v (.int .u8 0), .v (.int .u8 0), .v (.int .u8 0), .v (.int .u8 0), .v (.int .u8 0), .v (.int .u8 0), .v (.int .u8 0), .v (.int .u8 0), .v (.int .u8 0), .v (.int .u8 0), .v (.int .u8 0), .v (.int .u8 0), .v (.int .u8 0), .v (.int .u8 0), .v (.int .u8 0), .v (.int .u8 0), .v (.int .u8 0), .v (.int .u8 0), .v (.int .u8 0), .v (.int .u8 0), .v (.int .u8 0), .v (.int .u8 0), .v (.int .u8 0), .v (.int .u8 0), .v (.int .u8 0), .v (.int .i64 0), .v (.string ⟨#[]⟩), .v (.string ⟨#[]⟩), .v (.int .i64 0), .sl .full [], .sl .full [], .v (.int .i64 0), .v (.int .i64 0), .v (.string ⟨#[]⟩), .sl .full [], .sl .full [], .sl .full [], .v (.int .i64 0), .v (.int .i64 0), .v (.string ⟨#[]⟩), .sl .full [], .sl .full [], .sl .full [], .sl .full [], .sl .full []] := by kernel_rfl
@[go_sem] theorem fld_69_0 : fld Tryz.prog 69 0 = some (0, 5) := by kernel_rfl
@[go_sem] theorem fld_69_1 : fld Tryz.prog 69 1 = some (1, 39) := by kernel_rfl
@[go_sem] theorem fld_69_2 : fld Tryz.prog 69 2 = some (33, 47) := by kernel_rfl
@[go_sem] theorem okT_72 : okT Tryz.prog 72 = true := by kernel_rfl
@[go_sem] theorem szOf_72 : szOf Tryz.prog 72 = 1 := by kernel_rfl
@[go_sem] theorem aggT_72 : aggT Tryz.prog 72 = false := by kernel_rfl
@[go_sem] theorem undS_72 : (Tryz.prog.underlying 72).isSome = true := by kernel_rfl
@[go_sem] theorem infS_72 : (Tryz.prog.info? 72).isSome = true := by kernel_rfl
@[go_sem] theorem ifaceT_72 : ifaceT Tryz.prog 72 = false := by kernel_rfl
@[go_sem] theorem ptrT_72 : ptrT Tryz.prog 72 = false := by kernel_rfl
@[go_sem] theorem zeroT_72 : zeroT Tryz.prog 72 = true := by kernel_rfl
@[go_sem] theorem zeroOk_72 : zeroOk Tryz.prog 72 = true := by kernel_rfl
@[go_sem] theorem bytesOf_72 : bytesOf Tryz.prog 72 = 8 := by kernel_rfl
@[go_sem] theorem zeroD_72 : zeroD Tryz.prog 72 = [.v .nilFunc] := by kernel_rfl
@[go_sem] theorem okT_78 : okT Tryz.prog 78 = true := by kernel_rfl
@[go_sem] theorem szOf_78 : szOf Tryz.prog 78 = 1 := by kernel_rfl
@[go_sem] theorem aggT_78 : aggT Tryz.prog 78 = false := by kernel_rfl
@[go_sem] theorem undS_78 : (Tryz.prog.underlying 78).isSome = true := by kernel_rfl
@[go_sem] theorem infS_78 : (Tryz.prog.info? 78).isSome = true := by kernel_rfl
@[go_sem] theorem ifaceT_78 : ifaceT Tryz.prog 78 = false := by kernel_rfl
@[go_sem] theorem ptrT_78 : ptrT Tryz.prog 78 = false := by kernel_rfl
@[go_sem] theorem zeroT_78 : zeroT Tryz.prog 78 = true := by kernel_rfl
@[go_sem] theorem zeroOk_78 : zeroOk Tryz.prog 78 = true := by kernel_rfl
@[go_sem] theorem bytesOf_78 : bytesOf Tryz.prog 78 = 24 := by kernel_rfl
@[go_sem] theorem zeroD_78 : zeroD Tryz.prog 78 = [.sl .full []] := by kernel_rfl
@[go_sem] theorem elT_78 : elT Tryz.prog 78 = some 3 := by kernel_rfl
@[go_sem] theorem bul_78 (own : Own) (es : List D) (ty : TypeId) (cs : Array Bool) : dbuiltin Tryz.prog .len #[78] ty cs [.sl own es] = some (True, .v (.int .i64 es.length)) := bu_len own es _ ty cs elT_78
@[go_sem] theorem okT_92 : okT Tryz.prog 92 = true := by kernel_rfl
@[go_sem] theorem szOf_92 : szOf Tryz.prog 92 = 1 := by kernel_rfl
@[go_sem] theorem aggT_92 : aggT Tryz.prog 92 = false := by kernel_rfl
@[go_sem] theorem undS_92 : (Tryz.prog.underlying 92).isSome = true := by kernel_rfl
@[go_sem] theorem infS_92 : (Tryz.prog.info? 92).isSome = true := by kernel_rfl
@[go_sem] theorem ifaceT_92 : ifaceT Tryz.prog 92 = false := by kernel_rfl
@[go_sem] theorem ptrT_92 : ptrT Tryz.prog 92 = false := by kernel_rfl
@[go_sem] theorem zeroT_92 : zeroT Tryz.prog 92 = true := by kernel_rfl
@[go_sem] theorem zeroOk_92 : zeroOk Tryz.prog 92 = true := by kernel_rfl
@[go_sem] theorem bytesOf_92 : bytesOf Tryz.prog 92 = 24 := by kernel_rfl
@[go_sem] theorem zeroD_92 : zeroD Tryz.prog 92 = [.sl .full []] := by kernel_rfl
@[go_sem] theorem elT_92 : elT Tryz.prog 92 = some 99 := by kernel_rfl
@[go_sem] theorem bwl_92 (k off n c : Nat) (ty : TypeId) (cs : Array Bool) : dbuiltin Tryz.prog .len #[92] ty cs [.win k off n c] = some (True, .v (.int .i64 n)) := bu_wlen k off n c _ ty cs elT_92
@[go_sem] theorem okT_93 : okT Tryz.prog 93 = true := by kernel_rfl
@[go_sem] theorem szOf_93 : szOf Tryz.prog 93 = 1 := by kernel_rfl
@[go_sem] theorem aggT_93 : aggT Tryz.prog 93 = false := by kernel_rfl
@[go_sem] theorem undS_93 : (Tryz.prog.underlying 93).isSome = true := by kernel_rfl
@[go_sem] theorem infS_93 : (Tryz.prog.info? 93).isSome = true := by kernel_rfl
@[go_sem] theorem ifaceT_93 : ifaceT Tryz.prog 93 = false := by kernel_rfl
@[go_sem] theorem ptrT_93 : ptrT Tryz.prog 93 = false := by kernel_rfl
@[go_sem] theorem zeroT_93 : zeroT Tryz.prog 93 = true := by kernel_rfl
@[go_sem] theorem zeroOk_93 : zeroOk Tryz.prog 93 = true := by kernel_rfl
@[go_sem] theorem bytesOf_93 : bytesOf Tryz.prog 93 = 8 := by kernel_rfl
@[go_sem] theorem zeroD_93 : zeroD Tryz.prog 93 = [.v (.map none)] := by kernel_rfl
@[go_sem] theorem okT_95 : okT Tryz.prog 95 = true := by kernel_rfl
@[go_sem] theorem szOf_95 : szOf Tryz.prog 95 = 3 := by kernel_rfl
@[go_sem] theorem aggT_95 : aggT Tryz.prog 95 = true := by kernel_rfl
@[go_sem] theorem undS_95 : (Tryz.prog.underlying 95).isSome = true := by kernel_rfl
@[go_sem] theorem infS_95 : (Tryz.prog.info? 95).isSome = true := by kernel_rfl
@[go_sem] theorem ifaceT_95 : ifaceT Tryz.prog 95 = false := by kernel_rfl
@[go_sem] theorem ptrT_95 : ptrT Tryz.prog 95 = false := by kernel_rfl
@[go_sem] theorem zeroT_95 : zeroT Tryz.prog 95 = true := by kernel_rfl
@[go_sem] theorem zeroOk_95 : zeroOk Tryz.prog 95 = true := by kernel_rfl
@[go_sem] theorem bytesOf_95 : bytesOf Tryz.prog 95 = 56 := by kernel_rfl
@[go_sem] theorem zeroD_95 : zeroD Tryz.prog 95 = [.sl .full [], .sl .full [], .v (.map none)] := by kernel_rfl
@[go_sem] theorem fld_95_0 : fld Tryz.prog 95 0 = some (0, 35) := by kernel_rfl
@[go_sem] theorem fld_95_1 : fld Tryz.prog 95 1 = some (1, 92) := by kernel_rfl
@[go_sem] theorem fld_95_2 : fld Tryz.prog 95 2 = some (2, 93) := by kernel_rfl
noncomputable def pl95 : Nat → Option (Nat × Nat) := (placeT Tryz.prog 95).getD fun _ => none
@[go_sem] theorem placeT_95 : placeT Tryz.prog 95 = some pl95 := by kernel_rfl
@[go_sem] theorem pl_95_0 : pl95 0 = some (0, 1) := by kernel_rfl
@[go_sem] theorem pl_95_1 : pl95 1 = some (1, 1) := by kernel_rfl
@[go_sem] theorem pl_95_2 : pl95 2 = some (2, 1) := by kernel_rfl
@[go_sem] theorem okT_97 : okT Tryz.prog 97 = true := by kernel_rfl
@[go_sem] theorem szOf_97 : szOf Tryz.prog 97 = 1 := by kernel_rfl
@[go_sem] theorem aggT_97 : aggT Tryz.prog 97 = false := by kernel_rfl
@[go_sem] theorem undS_97 : (Tryz.prog.underlying 97).isSome = true := by kernel_rfl
@[go_sem] theorem infS_97 : (Tryz.prog.info? 97).isSome = true := by kernel_rfl
@[go_sem] theorem ifaceT_97 : ifaceT Tryz.prog 97 = false := by kernel_rfl
@[go_sem] theorem ptrT_97 : ptrT Tryz.prog 97 = false := by kernel_rfl
@[go_sem] theorem zeroT_97 : zeroT Tryz.prog 97 = true := by kernel_rfl
@[go_sem] theorem zeroOk_97 : zeroOk Tryz.prog 97 = true := by kernel_rfl
@[go_sem] theorem bytesOf_97 : bytesOf Tryz.prog 97 = 8 := by kernel_rfl
@[go_sem] theorem zeroD_97 : zeroD Tryz.prog 97 = [.v .nilFunc] := by kernel_rfl
@[go_sem] theorem okT_99 : okT Tryz.prog 99 = true := by kernel_rfl
@[go_sem] theorem szOf_99 : szOf Tryz.prog 99 = 25 := by kernel_rfl
@[go_sem] theorem aggT_99 : aggT Tryz.prog 99 = true := by kernel_rfl
@[go_sem] theorem undS_99 : (Tryz.prog.underlying 99).isSome = true := by kernel_rfl
@[go_sem] theorem infS_99 : (Tryz.prog.info? 99).isSome = true := by kernel_rfl
@[go_sem] theorem ifaceT_99 : ifaceT Tryz.prog 99 = false := by kernel_rfl
@[go_sem] theorem ptrT_99 : ptrT Tryz.prog 99 = false := by kernel_rfl
@[go_sem] theorem zeroT_99 : zeroT Tryz.prog 99 = true := by kernel_rfl
@[go_sem] theorem zeroOk_99 : zeroOk Tryz.prog 99 = true := by kernel_rfl
@[go_sem] theorem bytesOf_99 : bytesOf Tryz.prog 99 = 440 := by kernel_rfl
@[go_sem] theorem zeroD_99 : zeroD Tryz.prog 99 = [.v (.int .i64 0), .v (.int .i64 0), .v (.string ⟨#[]⟩), .v (.string ⟨#[]⟩), .v (.int .i64 0), .sl .full [], .sl .full [], .v (.int .i64 0), .v (.int .i64 0), .v (.string ⟨#[]⟩), .sl .full [], .sl .full [], .sl .full [], .v (.int .i64 0), .v (.int .i64 0), .v (.string ⟨#[]⟩), .sl .full [], .sl .full [], .sl .full [], .sl .full [], .sl .full [], .v (.int .i64 0), .sl .full [], .sl .full [], .sl .full []] := by kernel_rfl
@[go_sem] theorem fld_99_0 : fld Tryz.prog 99 0 = some (0, 3) := by kernel_rfl
@[go_sem] theorem fld_99_1 : fld Tryz.prog 99 1 = some (1, 47) := by kernel_rfl
@[go_sem] theorem fld_99_2 : fld Tryz.prog 99 2 = some (21, 25) := by kernel_rfl
@[go_sem] theorem fld_99_3 : fld Tryz.prog 99 3 = some (24, 78) := by kernel_rfl
noncomputable def pl99 : Nat → Option (Nat × Nat) := (placeT Tryz.prog 99).getD fun _ => none
@[go_sem] theorem placeT_99 : placeT Tryz.prog 99 = some pl99 := by kernel_rfl
@[go_sem] theorem pl_99_0 : pl99 0 = some (0, 1) := by kernel_rfl
@[go_sem] theorem pl_99_1 : pl99 1 = some (1, 20) := by kernel_rfl
@[go_sem] theorem pl_99_2 : pl99 2 = some (21, 3) := by kernel_rfl
@[go_sem] theorem pl_99_3 : pl99 3 = some (24, 1) := by kernel_rfl
@[go_sem] theorem okT_104 : okT Tryz.prog 104 = true := by kernel_rfl
@[go_sem] theorem szOf_104 : szOf Tryz.prog 104 = 1 := by kernel_rfl
@[go_sem] theorem aggT_104 : aggT Tryz.prog 104 = false := by kernel_rfl
@[go_sem] theorem undS_104 : (Tryz.prog.underlying 104).isSome = true := by kernel_rfl
@[go_sem] theorem infS_104 : (Tryz.prog.info? 104).isSome = true := by kernel_rfl
@[go_sem] theorem ifaceT_104 : ifaceT Tryz.prog 104 = false := by kernel_rfl
@[go_sem] theorem ptrT_104 : ptrT Tryz.prog 104 = false := by kernel_rfl
@[go_sem] theorem zeroT_104 : zeroT Tryz.prog 104 = true := by kernel_rfl
@[go_sem] theorem zeroOk_104 : zeroOk Tryz.prog 104 = true := by kernel_rfl
@[go_sem] theorem bytesOf_104 : bytesOf Tryz.prog 104 = 8 := by kernel_rfl
@[go_sem] theorem zeroD_104 : zeroD Tryz.prog 104 = [.v (.int .i64 0)] := by kernel_rfl
@[go_sem] theorem okT_109 : okT Tryz.prog 109 = true := by kernel_rfl
@[go_sem] theorem szOf_109 : szOf Tryz.prog 109 = 1 := by kernel_rfl
@[go_sem] theorem aggT_109 : aggT Tryz.prog 109 = false := by kernel_rfl
@[go_sem] theorem undS_109 : (Tryz.prog.underlying 109).isSome = true := by kernel_rfl
@[go_sem] theorem infS_109 : (Tryz.prog.info? 109).isSome = true := by kernel_rfl
@[go_sem] theorem ifaceT_109 : ifaceT Tryz.prog 109 = false := by kernel_rfl
@[go_sem] theorem ptrT_109 : ptrT Tryz.prog 109 = false := by kernel_rfl
@[go_sem] theorem zeroT_109 : zeroT Tryz.prog 109 = true := by kernel_rfl
@[go_sem] theorem zeroOk_109 : zeroOk Tryz.prog 109 = true := by kernel_rfl
@[go_sem] theorem bytesOf_109 : bytesOf Tryz.prog 109 = 8 := by kernel_rfl
@[go_sem] theorem zeroD_109 : zeroD Tryz.prog 109 = [.v .nilFunc] := by kernel_rfl
@[go_sem] theorem okT_111 : okT Tryz.prog 111 = true := by kernel_rfl
@[go_sem] theorem szOf_111 : szOf Tryz.prog 111 = 12 := by kernel_rfl
@[go_sem] theorem aggT_111 : aggT Tryz.prog 111 = true := by kernel_rfl
@[go_sem] theorem undS_111 : (Tryz.prog.underlying 111).isSome = true := by kernel_rfl
@[go_sem] theorem infS_111 : (Tryz.prog.info? 111).isSome = true := by kernel_rfl
@[go_sem] theorem ifaceT_111 : ifaceT Tryz.prog 111 = false := by kernel_rfl
@[go_sem] theorem ptrT_111 : ptrT Tryz.prog 111 = false := by kernel_rfl
@[go_sem] theorem zeroT_111 : zeroT Tryz.prog 111 = true := by kernel_rfl
@[go_sem] theorem zeroOk_111 : zeroOk Tryz.prog 111 = true := by kernel_rfl
@[go_sem] theorem bytesOf_111 : bytesOf Tryz.prog 111 = 208 := by kernel_rfl
@[go_sem] theorem zeroD_111 : zeroD Tryz.prog 111 = [.v (.int .i64 0), .v (.int .i64 0), .v (.string ⟨#[]⟩), .sl .full [], .sl .full [], .sl .full [], .v (.int .i64 0), .v (.int .i64 0), .v (.string ⟨#[]⟩), .sl .full [], .sl .full [], .sl .full []] := by kernel_rfl
@[go_sem] theorem fld_111_0 : fld Tryz.prog 111 0 = some (0, 43) := by kernel_rfl
@[go_sem] theorem fld_111_1 : fld Tryz.prog 111 1 = some (6, 43) := by kernel_rfl
noncomputable def pl111 : Nat → Option (Nat × Nat) := (placeT Tryz.prog 111).getD fun _ => none
@[go_sem] theorem placeT_111 : placeT Tryz.prog 111 = some pl111 := by kernel_rfl
@[go_sem] theorem pl_111_0 : pl111 0 = some (0, 6) := by kernel_rfl
@[go_sem] theorem pl_111_1 : pl111 1 = some (6, 6) := by kernel_rfl
@[go_sem] theorem okT_114 : okT Tryz.prog 114 = true := by kernel_rfl
@[go_sem] theorem szOf_114 : szOf Tryz.prog 114 = 1 := by kernel_rfl
@[go_sem] theorem aggT_114 : aggT Tryz.prog 114 = false := by kernel_rfl
@[go_sem] theorem undS_114 : (Tryz.prog.underlying 114).isSome = true := by kernel_rfl
@[go_sem] theorem infS_114 : (Tryz.prog.info? 114).isSome = true := by kernel_rfl
@[go_sem] theorem ifaceT_114 : ifaceT Tryz.prog 114 = false := by kernel_rfl
@[go_sem] theorem ptrT_114 : ptrT Tryz.prog 114 = true := by kernel_rfl
@[go_sem] theorem zeroT_114 : zeroT Tryz.prog 114 = true := by kernel_rfl
@[go_sem] theorem zeroOk_114 : zeroOk Tryz.prog 114 = true := by kernel_rfl
@[go_sem] theorem bytesOf_114 : bytesOf Tryz.prog 114 = 8 := by kernel_rfl
@[go_sem] theorem zeroD_114 : zeroD Tryz.prog 114 = [.v (.pointer none)] := by kernel_rfl
@[go_sem] theorem okT_116 : okT Tryz.prog 116 = true := by kernel_rfl
@[go_sem] theorem szOf_116 : szOf Tryz.prog 116 = 1 := by kernel_rfl
@[go_sem] theorem aggT_116 : aggT Tryz.prog 116 = false := by kernel_rfl
@[go_sem] theorem undS_116 : (Tryz.prog.underlying 116).isSome = true := by kernel_rfl
@[go_sem] theorem infS_116 : (Tryz.prog.info? 116).isSome = true := by kernel_rfl
@[go_sem] theorem ifaceT_116 : ifaceT Tryz.prog 116 = false := by kernel_rfl
@[go_sem] theorem ptrT_116 : ptrT Tryz.prog 116 = false := by kernel_rfl
@[go_sem] theorem zeroT_116 : zeroT Tryz.prog 116 = true := by kernel_rfl
@[go_sem] theorem zeroOk_116 : zeroOk Tryz.prog 116 = true := by kernel_rfl
@[go_sem] theorem bytesOf_116 : bytesOf Tryz.prog 116 = 24 := by kernel_rfl
@[go_sem] theorem zeroD_116 : zeroD Tryz.prog 116 = [.sl .full []] := by kernel_rfl
@[go_sem] theorem elT_116 : elT Tryz.prog 116 = some 4 := by kernel_rfl
@[go_sem] theorem okT_119 : okT Tryz.prog 119 = true := by kernel_rfl
@[go_sem] theorem szOf_119 : szOf Tryz.prog 119 = 1 := by kernel_rfl
@[go_sem] theorem aggT_119 : aggT Tryz.prog 119 = false := by kernel_rfl
@[go_sem] theorem undS_119 : (Tryz.prog.underlying 119).isSome = true := by kernel_rfl
@[go_sem] theorem infS_119 : (Tryz.prog.info? 119).isSome = true := by kernel_rfl
@[go_sem] theorem ifaceT_119 : ifaceT Tryz.prog 119 = false := by kernel_rfl
@[go_sem] theorem ptrT_119 : ptrT Tryz.prog 119 = false := by kernel_rfl
@[go_sem] theorem zeroT_119 : zeroT Tryz.prog 119 = true := by kernel_rfl
@[go_sem] theorem zeroOk_119 : zeroOk Tryz.prog 119 = true := by kernel_rfl
@[go_sem] theorem bytesOf_119 : bytesOf Tryz.prog 119 = 8 := by kernel_rfl
@[go_sem] theorem zeroD_119 : zeroD Tryz.prog 119 = [.v .nilFunc] := by kernel_rfl
@[go_sem] theorem okT_121 : okT Tryz.prog 121 = true := by kernel_rfl
@[go_sem] theorem szOf_121 : szOf Tryz.prog 121 = 1 := by kernel_rfl
@[go_sem] theorem aggT_121 : aggT Tryz.prog 121 = false := by kernel_rfl
@[go_sem] theorem undS_121 : (Tryz.prog.underlying 121).isSome = true := by kernel_rfl
@[go_sem] theorem infS_121 : (Tryz.prog.info? 121).isSome = true := by kernel_rfl
@[go_sem] theorem ifaceT_121 : ifaceT Tryz.prog 121 = false := by kernel_rfl
@[go_sem] theorem ptrT_121 : ptrT Tryz.prog 121 = false := by kernel_rfl
@[go_sem] theorem zeroT_121 : zeroT Tryz.prog 121 = true := by kernel_rfl
@[go_sem] theorem zeroOk_121 : zeroOk Tryz.prog 121 = true := by kernel_rfl
@[go_sem] theorem bytesOf_121 : bytesOf Tryz.prog 121 = 8 := by kernel_rfl
@[go_sem] theorem zeroD_121 : zeroD Tryz.prog 121 = [.v .nilFunc] := by kernel_rfl
@[go_sem] theorem okT_122 : okT Tryz.prog 122 = true := by kernel_rfl
@[go_sem] theorem szOf_122 : szOf Tryz.prog 122 = 1 := by kernel_rfl
@[go_sem] theorem aggT_122 : aggT Tryz.prog 122 = false := by kernel_rfl
@[go_sem] theorem undS_122 : (Tryz.prog.underlying 122).isSome = true := by kernel_rfl
@[go_sem] theorem infS_122 : (Tryz.prog.info? 122).isSome = true := by kernel_rfl
@[go_sem] theorem ifaceT_122 : ifaceT Tryz.prog 122 = false := by kernel_rfl
@[go_sem] theorem ptrT_122 : ptrT Tryz.prog 122 = false := by kernel_rfl
@[go_sem] theorem zeroT_122 : zeroT Tryz.prog 122 = true := by kernel_rfl
@[go_sem] theorem zeroOk_122 : zeroOk Tryz.prog 122 = true := by kernel_rfl
@[go_sem] theorem bytesOf_122 : bytesOf Tryz.prog 122 = 8 := by kernel_rfl
@[go_sem] theorem zeroD_122 : zeroD Tryz.prog 122 = [.v (.int .u64 0)] := by kernel_rfl
@[go_sem] theorem okT_123 : okT Tryz.prog 123 = true := by kernel_rfl
@[go_sem] theorem szOf_123 : szOf Tryz.prog 123 = 1 := by kernel_rfl
@[go_sem] theorem aggT_123 : aggT Tryz.prog 123 = false := by kernel_rfl
@[go_sem] theorem undS_123 : (Tryz.prog.underlying 123).isSome = true := by kernel_rfl
@[go_sem] theorem infS_123 : (Tryz.prog.info? 123).isSome = true := by kernel_rfl
@[go_sem] theorem ifaceT_123 : ifaceT Tryz.prog 123 = false := by kernel_rfl
@[go_sem] theorem ptrT_123 : ptrT Tryz.prog 123 = false := by kernel_rfl
@[go_sem] theorem zeroT_123 : zeroT Tryz.prog 123 = true := by kernel_rfl
@[go_sem] theorem zeroOk_123 : zeroOk Tryz.prog 123 = true := by kernel_rfl
@[go_sem] theorem bytesOf_123 : bytesOf Tryz.prog 123 = 8 := by kernel_rfl
@[go_sem] theorem zeroD_123 : zeroD Tryz.prog 123 = [.v .nilFunc] := by kernel_rfl
@[go_sem] theorem okT_125 : okT Tryz.prog 125 = true := by kernel_rfl
@[go_sem] theorem szOf_125 : szOf Tryz.prog 125 = 1 := by kernel_rfl
@[go_sem] theorem aggT_125 : aggT Tryz.prog 125 = false := by kernel_rfl
@[go_sem] theorem undS_125 : (Tryz.prog.underlying 125).isSome = true := by kernel_rfl
@[go_sem] theorem infS_125 : (Tryz.prog.info? 125).isSome = true := by kernel_rfl
@[go_sem] theorem ifaceT_125 : ifaceT Tryz.prog 125 = false := by kernel_rfl
@[go_sem] theorem ptrT_125 : ptrT Tryz.prog 125 = false := by kernel_rfl
@[go_sem] theorem zeroT_125 : zeroT Tryz.prog 125 = true := by kernel_rfl
@[go_sem] theorem zeroOk_125 : zeroOk Tryz.prog 125 = true := by kernel_rfl
@[go_sem] theorem bytesOf_125 : bytesOf Tryz.prog 125 = 8 := by kernel_rfl
@[go_sem] theorem zeroD_125 : zeroD Tryz.prog 125 = [.v (.pointer none)] := by kernel_rfl
@[go_sem] theorem okT_126 : okT Tryz.prog 126 = true := by kernel_rfl
@[go_sem] theorem szOf_126 : szOf Tryz.prog 126 = 1 := by kernel_rfl
@[go_sem] theorem aggT_126 : aggT Tryz.prog 126 = false := by kernel_rfl
@[go_sem] theorem undS_126 : (Tryz.prog.underlying 126).isSome = true := by kernel_rfl
@[go_sem] theorem infS_126 : (Tryz.prog.info? 126).isSome = true := by kernel_rfl
@[go_sem] theorem ifaceT_126 : ifaceT Tryz.prog 126 = false := by kernel_rfl
@[go_sem] theorem ptrT_126 : ptrT Tryz.prog 126 = false := by kernel_rfl
@[go_sem] theorem zeroT_126 : zeroT Tryz.prog 126 = true := by kernel_rfl
@[go_sem] theorem zeroOk_126 : zeroOk Tryz.prog 126 = true := by kernel_rfl
@[go_sem] theorem bytesOf_126 : bytesOf Tryz.prog 126 = 8 := by kernel_rfl
@[go_sem] theorem zeroD_126 : zeroD Tryz.prog 126 = [.v (.int .u64 0)] := by kernel_rfl
@[go_sem] theorem okT_128 : okT Tryz.prog 128 = true := by kernel_rfl
@[go_sem] theorem szOf_128 : szOf Tryz.prog 128 = 3 := by kernel_rfl
@[go_sem] theorem aggT_128 : aggT Tryz.prog 128 = true := by kernel_rfl
@[go_sem] theorem undS_128 : (Tryz.prog.underlying 128).isSome = true := by kernel_rfl
@[go_sem] theorem infS_128 : (Tryz.prog.info? 128).isSome = true := by kernel_rfl
@[go_sem] theorem ifaceT_128 : ifaceT Tryz.prog 128 = false := by kernel_rfl
@[go_sem] theorem ptrT_128 : ptrT Tryz.prog 128 = false := by kernel_rfl
@[go_sem] theorem zeroT_128 : zeroT Tryz.prog 128 = true := by kernel_rfl
@[go_sem] theorem zeroOk_128 : zeroOk Tryz.prog 128 = true := by kernel_rfl
@[go_sem] theorem bytesOf_128 : bytesOf Tryz.prog 128 = 24 := by kernel_rfl
@[go_sem] theorem zeroD_128 : zeroD Tryz.prog 128 = [.v (.pointer none), .v (.pointer none), .v (.int .u64 0)] := by kernel_rfl
@[go_sem] theorem fld_128_0 : fld Tryz.prog 128 0 = some (0, 17) := by kernel_rfl
@[go_sem] theorem fld_128_1 : fld Tryz.prog 128 1 = some (1, 125) := by kernel_rfl
@[go_sem] theorem fld_128_2 : fld Tryz.prog 128 2 = some (2, 126) := by kernel_rfl
@[go_sem] theorem okT_131 : okT Tryz.prog 131 = true := by kernel_rfl
@[go_sem] theorem szOf_131 : szOf Tryz.prog 131 = 1 := by kernel_rfl
@[go_sem] theorem aggT_131 : aggT Tryz.prog 131 = false := by kernel_rfl
@[go_sem] theorem undS_131 : (Tryz.prog.underlying 131).isSome = true := by kernel_rfl
@[go_sem] theorem infS_131 : (Tryz.prog.info? 131).isSome = true := by kernel_rfl
@[go_sem] theorem ifaceT_131 : ifaceT Tryz.prog 131 = true := by kernel_rfl
@[go_sem] theorem ptrT_131 : ptrT Tryz.prog 131 = false := by kernel_rfl
@[go_sem] theorem zeroT_131 : zeroT Tryz.prog 131 = true := by kernel_rfl
@[go_sem] theorem zeroOk_131 : zeroOk Tryz.prog 131 = true := by kernel_rfl
@[go_sem] theorem bytesOf_131 : bytesOf Tryz.prog 131 = 16 := by kernel_rfl
@[go_sem] theorem zeroD_131 : zeroD Tryz.prog 131 = [.v .nilIface] := by kernel_rfl
@[go_sem] theorem okT_133 : okT Tryz.prog 133 = true := by kernel_rfl
@[go_sem] theorem szOf_133 : szOf Tryz.prog 133 = 1 := by kernel_rfl
@[go_sem] theorem aggT_133 : aggT Tryz.prog 133 = false := by kernel_rfl
@[go_sem] theorem undS_133 : (Tryz.prog.underlying 133).isSome = true := by kernel_rfl
@[go_sem] theorem infS_133 : (Tryz.prog.info? 133).isSome = true := by kernel_rfl
@[go_sem] theorem ifaceT_133 : ifaceT Tryz.prog 133 = false := by kernel_rfl
@[go_sem] theorem ptrT_133 : ptrT Tryz.prog 133 = false := by kernel_rfl
@[go_sem] theorem zeroT_133 : zeroT Tryz.prog 133 = true := by kernel_rfl
@[go_sem] theorem zeroOk_133 : zeroOk Tryz.prog 133 = true := by kernel_rfl
@[go_sem] theorem bytesOf_133 : bytesOf Tryz.prog 133 = 1 := by kernel_rfl
@[go_sem] theorem zeroD_133 : zeroD Tryz.prog 133 = [.v (.int .u8 0)] := by kernel_rfl
@[go_sem] theorem okT_164 : okT Tryz.prog 164 = true := by kernel_rfl
@[go_sem] theorem szOf_164 : szOf Tryz.prog 164 = 1 := by kernel_rfl
@[go_sem] theorem aggT_164 : aggT Tryz.prog 164 = false := by kernel_rfl
@[go_sem] theorem undS_164 : (Tryz.prog.underlying 164).isSome = true := by kernel_rfl
@[go_sem] theorem infS_164 : (Tryz.prog.info? 164).isSome = true := by kernel_rfl
@[go_sem] theorem ifaceT_164 : ifaceT Tryz.prog 164 = false := by kernel_rfl
@[go_sem] theorem ptrT_164 : ptrT Tryz.prog 164 = false := by kernel_rfl
@[go_sem] theorem zeroT_164 : zeroT Tryz.prog 164 = true := by kernel_rfl
@[go_sem] theorem zeroOk_164 : zeroOk Tryz.prog 164 = true := by kernel_rfl
@[go_sem] theorem bytesOf_164 : bytesOf Tryz.prog 164 = 24 := by kernel_rfl
@[go_sem] theorem zeroD_164 : zeroD Tryz.prog 164 = [.sl .full []] := by kernel_rfl
@[go_sem] theorem elT_164 : elT Tryz.prog 164 = some 66 := by kernel_rfl
@[go_sem] theorem okT_166 : okT Tryz.prog 166 = true := by kernel_rfl
@[go_sem] theorem szOf_166 : szOf Tryz.prog 166 = 1 := by kernel_rfl
@[go_sem] theorem aggT_166 : aggT Tryz.prog 166 = false := by kernel_rfl
@[go_sem] theorem undS_166 : (Tryz.prog.underlying 166).isSome = true := by kernel_rfl
@[go_sem] theorem infS_166 : (Tryz.prog.info? 166).isSome = true := by kernel_rfl
@[go_sem] theorem ifaceT_166 : ifaceT Tryz.prog 166 = false := by kernel_rfl
@[go_sem] theorem ptrT_166 : ptrT Tryz.prog 166 = false := by kernel_rfl
@[go_sem] theorem zeroT_166 : zeroT Tryz.prog 166 = true := by kernel_rfl
@[go_sem] theorem zeroOk_166 : zeroOk Tryz.prog 166 = true := by kernel_rfl
@[go_sem] theorem bytesOf_166 : bytesOf Tryz.prog 166 = 8 := by kernel_rfl
@[go_sem] theorem zeroD_166 : zeroD Tryz.prog 166 = [.v .nilFunc] := by kernel_rfl
@[go_sem] theorem okT_171 : okT Tryz.prog 171 = true := by kernel_rfl
@[go_sem] theorem szOf_171 : szOf Tryz.prog 171 = 1 := by kernel_rfl
@[go_sem] theorem aggT_171 : aggT Tryz.prog 171 = false := by kernel_rfl
@[go_sem] theorem undS_171 : (Tryz.prog.underlying 171).isSome = true := by kernel_rfl
@[go_sem] theorem infS_171 : (Tryz.prog.info? 171).isSome = true := by kernel_rfl
@[go_sem] theorem ifaceT_171 : ifaceT Tryz.prog 171 = false := by kernel_rfl
@[go_sem] theorem ptrT_171 : ptrT Tryz.prog 171 = false := by kernel_rfl
@[go_sem] theorem zeroT_171 : zeroT Tryz.prog 171 = true := by kernel_rfl
@[go_sem] theorem zeroOk_171 : zeroOk Tryz.prog 171 = true := by kernel_rfl
@[go_sem] theorem bytesOf_171 : bytesOf Tryz.prog 171 = 8 := by kernel_rfl
@[go_sem] theorem zeroD_171 : zeroD Tryz.prog 171 = [.v (.int .u64 0)] := by kernel_rfl
@[go_sem] theorem okT_173 : okT Tryz.prog 173 = true := by kernel_rfl
@[go_sem] theorem szOf_173 : szOf Tryz.prog 173 = 4 := by kernel_rfl
@[go_sem] theorem aggT_173 : aggT Tryz.prog 173 = true := by kernel_rfl
@[go_sem] theorem undS_173 : (Tryz.prog.underlying 173).isSome = true := by kernel_rfl
@[go_sem] theorem infS_173 : (Tryz.prog.info? 173).isSome = true := by kernel_rfl
@[go_sem] theorem ifaceT_173 : ifaceT Tryz.prog 173 = false := by kernel_rfl
@[go_sem] theorem ptrT_173 : ptrT Tryz.prog 173 = false := by kernel_rfl
@[go_sem] theorem zeroT_173 : zeroT Tryz.prog 173 = true := by kernel_rfl
@[go_sem] theorem zeroOk_173 : zeroOk Tryz.prog 173 = true := by kernel_rfl
@[go_sem] theorem bytesOf_173 : bytesOf Tryz.prog 173 = 4 := by kernel_rfl
@[go_sem] theorem zeroD_173 : zeroD Tryz.prog 173 = [.v (.bool false), .v (.bool false), .v (.bool false), .v (.bool false)] := by kernel_rfl
@[go_sem] theorem fld_173_0 : fld Tryz.prog 173 0 = some (0, 4) := by kernel_rfl
@[go_sem] theorem fld_173_1 : fld Tryz.prog 173 1 = some (1, 4) := by kernel_rfl
@[go_sem] theorem fld_173_2 : fld Tryz.prog 173 2 = some (2, 4) := by kernel_rfl
@[go_sem] theorem fld_173_3 : fld Tryz.prog 173 3 = some (3, 4) := by kernel_rfl
noncomputable def pl173 : Nat → Option (Nat × Nat) := (placeT Tryz.prog 173).getD fun _ => none
@[go_sem] theorem placeT_173 : placeT Tryz.prog 173 = some pl173 := by kernel_rfl
@[go_sem] theorem pl_173_0 : pl173 0 = some (0, 1) := by kernel_rfl
@[go_sem] theorem pl_173_1 : pl173 1 = some (1, 1) := by kernel_rfl
@[go_sem] theorem pl_173_2 : pl173 2 = some (2, 1) := by kernel_rfl
@[go_sem] theorem pl_173_3 : pl173 3 = some (3, 1) := by kernel_rfl
@[go_sem] theorem okT_179 : okT Tryz.prog 179 = true := by kernel_rfl
@[go_sem] theorem szOf_179 : szOf Tryz.prog 179 = 1 := by kernel_rfl
@[go_sem] theorem aggT_179 : aggT Tryz.prog 179 = false := by kernel_rfl
@[go_sem] theorem undS_179 : (Tryz.prog.underlying 179).isSome = true := by kernel_rfl
@[go_sem] theorem infS_179 : (Tryz.prog.info? 179).isSome = true := by kernel_rfl
@[go_sem] theorem ifaceT_179 : ifaceT Tryz.prog 179 = false := by kernel_rfl
@[go_sem] theorem ptrT_179 : ptrT Tryz.prog 179 = false := by kernel_rfl
@[go_sem] theorem zeroT_179 : zeroT Tryz.prog 179 = true := by kernel_rfl
@[go_sem] theorem zeroOk_179 : zeroOk Tryz.prog 179 = true := by kernel_rfl
@[go_sem] theorem bytesOf_179 : bytesOf Tryz.prog 179 = 8 := by kernel_rfl
@[go_sem] theorem zeroD_179 : zeroD Tryz.prog 179 = [.v .nilFunc] := by kernel_rfl
@[go_sem] theorem okT_187 : okT Tryz.prog 187 = true := by kernel_rfl
@[go_sem] theorem szOf_187 : szOf Tryz.prog 187 = 1 := by kernel_rfl
@[go_sem] theorem aggT_187 : aggT Tryz.prog 187 = false := by kernel_rfl
@[go_sem] theorem undS_187 : (Tryz.prog.underlying 187).isSome = true := by kernel_rfl
@[go_sem] theorem infS_187 : (Tryz.prog.info? 187).isSome = true := by kernel_rfl
@[go_sem] theorem ifaceT_187 : ifaceT Tryz.prog 187 = false := by kernel_rfl
@[go_sem] theorem ptrT_187 : ptrT Tryz.prog 187 = false := by kernel_rfl
@[go_sem] theorem zeroT_187 : zeroT Tryz.prog 187 = true := by kernel_rfl
@[go_sem] theorem zeroOk_187 : zeroOk Tryz.prog 187 = true := by kernel_rfl
@[go_sem] theorem bytesOf_187 : bytesOf Tryz.prog 187 = 8 := by kernel_rfl
@[go_sem] theorem zeroD_187 : zeroD Tryz.prog 187 = [.v (.int .i64 0)] := by kernel_rfl
@[go_sem] theorem okT_194 : okT Tryz.prog 194 = true := by kernel_rfl
@[go_sem] theorem szOf_194 : szOf Tryz.prog 194 = 1 := by kernel_rfl
@[go_sem] theorem aggT_194 : aggT Tryz.prog 194 = false := by kernel_rfl
@[go_sem] theorem undS_194 : (Tryz.prog.underlying 194).isSome = true := by kernel_rfl
@[go_sem] theorem infS_194 : (Tryz.prog.info? 194).isSome = true := by kernel_rfl
@[go_sem] theorem ifaceT_194 : ifaceT Tryz.prog 194 = false := by kernel_rfl
@[go_sem] theorem ptrT_194 : ptrT Tryz.prog 194 = false := by kernel_rfl
@[go_sem] theorem zeroT_194 : zeroT Tryz.prog 194 = true := by kernel_rfl
@[go_sem] theorem zeroOk_194 : zeroOk Tryz.prog 194 = true := by kernel_rfl
@[go_sem] theorem bytesOf_194 : bytesOf Tryz.prog 194 = 4 := by kernel_rfl
@[go_sem] theorem zeroD_194 : zeroD Tryz.prog 194 = [.v (.int .u32 0)] := by kernel_rfl
@[go_sem] theorem okT_197 : okT Tryz.prog 197 = true := by kernel_rfl
@[go_sem] theorem szOf_197 : szOf Tryz.prog 197 = 1 := by kernel_rfl
@[go_sem] theorem aggT_197 : aggT Tryz.prog 197 = false := by kernel_rfl
@[go_sem] theorem undS_197 : (Tryz.prog.underlying 197).isSome = true := by kernel_rfl
@[go_sem] theorem infS_197 : (Tryz.prog.info? 197).isSome = true := by kernel_rfl
@[go_sem] theorem ifaceT_197 : ifaceT Tryz.prog 197 = false := by kernel_rfl
@[go_sem] theorem ptrT_197 : ptrT Tryz.prog 197 = false := by kernel_rfl
@[go_sem] theorem zeroT_197 : zeroT Tryz.prog 197 = true := by kernel_rfl
@[go_sem] theorem zeroOk_197 : zeroOk Tryz.prog 197 = true := by kernel_rfl
@[go_sem] theorem bytesOf_197 : bytesOf Tryz.prog 197 = 8 := by kernel_rfl
@[go_sem] theorem zeroD_197 : zeroD Tryz.prog 197 = [.v .nilFunc] := by kernel_rfl
@[go_sem] theorem okT_208 : okT Tryz.prog 208 = true := by kernel_rfl
@[go_sem] theorem szOf_208 : szOf Tryz.prog 208 = 1 := by kernel_rfl
@[go_sem] theorem aggT_208 : aggT Tryz.prog 208 = false := by kernel_rfl
@[go_sem] theorem undS_208 : (Tryz.prog.underlying 208).isSome = true := by kernel_rfl
@[go_sem] theorem infS_208 : (Tryz.prog.info? 208).isSome = true := by kernel_rfl
@[go_sem] theorem ifaceT_208 : ifaceT Tryz.prog 208 = false := by kernel_rfl
@[go_sem] theorem ptrT_208 : ptrT Tryz.prog 208 = false := by kernel_rfl
@[go_sem] theorem zeroT_208 : zeroT Tryz.prog 208 = true := by kernel_rfl
@[go_sem] theorem zeroOk_208 : zeroOk Tryz.prog 208 = true := by kernel_rfl
@[go_sem] theorem bytesOf_208 : bytesOf Tryz.prog 208 = 8 := by kernel_rfl
@[go_sem] theorem zeroD_208 : zeroD Tryz.prog 208 = [.v (.int .u64 0)] := by kernel_rfl
@[go_sem] theorem okT_212 : okT Tryz.prog 212 = true := by kernel_rfl
@[go_sem] theorem szOf_212 : szOf Tryz.prog 212 = 1 := by kernel_rfl
@[go_sem] theorem aggT_212 : aggT Tryz.prog 212 = false := by kernel_rfl
@[go_sem] theorem undS_212 : (Tryz.prog.underlying 212).isSome = true := by kernel_rfl
@[go_sem] theorem infS_212 : (Tryz.prog.info? 212).isSome = true := by kernel_rfl
@[go_sem] theorem ifaceT_212 : ifaceT Tryz.prog 212 = false := by kernel_rfl
@[go_sem] theorem ptrT_212 : ptrT Tryz.prog 212 = true := by kernel_rfl
@[go_sem] theorem zeroT_212 : zeroT Tryz.prog 212 = true := by kernel_rfl
@[go_sem] theorem zeroOk_212 : zeroOk Tryz.prog 212 = true := by kernel_rfl
@[go_sem] theorem bytesOf_212 : bytesOf Tryz.prog 212 = 8 := by kernel_rfl
@[go_sem] theorem zeroD_212 : zeroD Tryz.prog 212 = [.v (.pointer none)] := by kernel_rfl
theorem mixed : Tryz.prog.follows .mixedOrders = true := by kernel_rfl
end Go.Proofs.YtogbklnkpjjkoaaGreatDoor

namespace Go.Proofs.YtogbklnkpjjkoaaGreatDoor
open Go.RowKit

def strD (s : Str) : D := .v (sv s)
def u64D (n : Nat) : D := .v (.int .u64 (n : Int))
mutual
def encS : DSch → D
  | .mk k ws ps => .agg [.v (.int .i64 k), .sl .no (ws.map strD), .sl .no (encSs ps)]
def encSs : List DSch → List D
  | [] => []
  | p :: ps => encS p :: encSs ps
end
mutual
def encV : DVal → D
  | .mk k n s ns is ps => .agg [.v (.int .i64 k), .v (.int .i64 n), strD s, .sl .no (ns.map strD), .sl .no (is.map u64D), .sl .no (encVs ps)]
def encVs : List DVal → List D
  | [] => []
  | p :: ps => encV p :: encVs ps
end
theorem encSs_map : ∀ l : List DSch, encSs l = l.map encS
  | [] => rfl
  | p :: l => by simp [encSs, encSs_map l]
theorem encVs_map : ∀ l : List DVal, encVs l = l.map encV
  | [] => rfl
  | p :: l => by simp [encVs, encVs_map l]
theorem encS_eq (s : DSch) : encS s = .agg [.v (.int .i64 s.kind), .sl .no (s.words.map strD), .sl .no (s.parts.map encS)] := by
  obtain ⟨k, ws, ps⟩ := s
  simp [encS, encSs_map, DSch.kind, DSch.words, DSch.parts]
theorem encV_eq (v : DVal) : encV v = .agg [.v (.int .i64 v.kind), .v (.int .i64 v.n), strD v.s, .sl .no (v.names.map strD), .sl .no (v.ids.map u64D), .sl .no (v.parts.map encV)] := by
  obtain ⟨k, n, s, ns, is, ps⟩ := v
  simp [encV, encVs_map, DVal.kind, DVal.n, DVal.s, DVal.names, DVal.ids, DVal.parts]
theorem closed_strs (l : List Str) : allL (fun _ => False) (l.map strD) := allL_iff.2 fun d hd => by
  obtain ⟨s, _, rfl⟩ := List.mem_map.1 hd
  trivial
theorem closed_u64s (l : List Nat) : allL (fun _ => False) (l.map u64D) := allL_iff.2 fun d hd => by
  obtain ⟨s, _, rfl⟩ := List.mem_map.1 hd
  trivial
mutual
theorem closed_encS : ∀ s : DSch, (encS s).closed
  | .mk k ws ps => by simp only [encS, D.closed, D.all, allL, Own.all]; exact ⟨trivial, ⟨trivial, closed_strs ws⟩, ⟨trivial, closed_encSs ps⟩, trivial⟩
theorem closed_encSs : ∀ l : List DSch, allL (fun _ => False) (encSs l)
  | [] => trivial
  | p :: ps => by simp only [encSs, allL]; exact ⟨closed_encS p, closed_encSs ps⟩
end
mutual
theorem closed_encV : ∀ v : DVal, (encV v).closed
  | .mk k n s ns is ps => by simp only [encV, D.closed, D.all, allL, Own.all, strD]; exact ⟨trivial, trivial, trivial, ⟨trivial, closed_strs ns⟩, ⟨trivial, closed_u64s is⟩, ⟨trivial, closed_encVs ps⟩, trivial⟩
theorem closed_encVs : ∀ l : List DVal, allL (fun _ => False) (encVs l)
  | [] => trivial
  | p :: ps => by simp only [encVs, allL]; exact ⟨closed_encV p, closed_encVs ps⟩
end
theorem frz_strs (l : List Str) : frzL (l.map strD) = l.map strD := by simp [frzL_map, strD, D.frz, Function.comp_def]
theorem frz_u64s (l : List Nat) : frzL (l.map u64D) = l.map u64D := by simp [frzL_map, u64D, D.frz, Function.comp_def]
mutual
theorem frz_encS : ∀ s : DSch, (encS s).frz = encS s
  | .mk k ws ps => by simp only [encS, D.frz, frzL, frz_strs, frz_encSs ps]
theorem frz_encSs : ∀ l : List DSch, frzL (encSs l) = encSs l
  | [] => rfl
  | p :: ps => by simp only [encSs, frzL, frz_encS p, frz_encSs ps]
end
mutual
theorem frz_encV : ∀ v : DVal, (encV v).frz = encV v
  | .mk k n s ns is ps => by simp only [encV, D.frz, frzL, frz_strs, frz_u64s, frz_encVs ps, strD]
theorem frz_encVs : ∀ l : List DVal, frzL (encVs l) = encVs l
  | [] => rfl
  | p :: ps => by simp only [encVs, frzL, frz_encV p, frz_encVs ps]
end
theorem frz_mapV (l : List DVal) : frzL (l.map encV) = l.map encV := by rw [← encVs_map, frz_encVs]
/-! What fits the machine's bounds. -/
mutual
def okS : DSch → Prop
  | .mk k ws ps => I64 k ∧ (∀ s ∈ ws, s.length ≤ maxLen) ∧ ws.length ≤ 140737488351232 ∧ ps.length ≤ 140737488351232 ∧ okSs ps
def okSs : List DSch → Prop
  | [] => True
  | p :: ps => okS p ∧ okSs ps
end
mutual
def okV : DVal → Prop
  | .mk k n s ns is ps => I64 k ∧ I64 n ∧ s.length ≤ maxLen ∧ (∀ s ∈ ns, s.length ≤ maxLen) ∧ ns.length ≤ 140737488351232 ∧ (∀ i ∈ is, U64 (i : Int)) ∧ is.length ≤ 140737488351232 ∧ ps.length ≤ 140737488351232 ∧ okVs ps
def okVs : List DVal → Prop
  | [] => True
  | p :: ps => okV p ∧ okVs ps
end
theorem okSs_iff : ∀ {l : List DSch}, okSs l ↔ ∀ p ∈ l, okS p
  | [] => by simp [okSs]
  | p :: l => by simp [okSs, okSs_iff (l := l)]
theorem okVs_iff : ∀ {l : List DVal}, okVs l ↔ ∀ p ∈ l, okV p
  | [] => by simp [okVs]
  | p :: l => by simp [okVs, okVs_iff (l := l)]
theorem okS_eq (s : DSch) : okS s ↔ I64 s.kind ∧ (∀ x ∈ s.words, x.length ≤ maxLen) ∧ s.words.length ≤ 140737488351232 ∧ s.parts.length ≤ 140737488351232 ∧ ∀ p ∈ s.parts, okS p := by
  obtain ⟨k, ws, ps⟩ := s
  simp only [okS, okSs_iff, DSch.kind, DSch.words, DSch.parts]
theorem okV_eq (v : DVal) : okV v ↔ I64 v.kind ∧ I64 v.n ∧ v.s.length ≤ maxLen ∧ (∀ x ∈ v.names, x.length ≤ maxLen) ∧ v.names.length ≤ 140737488351232 ∧ (∀ i ∈ v.ids, U64 (i : Int)) ∧ v.ids.length ≤ 140737488351232 ∧ v.parts.length ≤ 140737488351232 ∧ ∀ p ∈ v.parts, okV p := by
  obtain ⟨k, n, s, ns, is, ps⟩ := v
  simp only [okV, okVs_iff, DVal.kind, DVal.n, DVal.s, DVal.names, DVal.ids, DVal.parts]
theorem IsSch.ok {w : World} {F : Nat → Prop} {s : DSch} {cs : List Value} (h : IsSch w F s cs) : okS s := by
  induction h with
  | mk h1 h2 h3 h4 h5 hA hC hP h6 h7 ih =>
    simp only [okS, okSs_iff]
    refine ⟨h1, h3, h5, h7, fun p hp => ?_⟩
    obtain ⟨i, hi, rfl⟩ := List.getElem_of_mem hp
    exact ih i _ (List.getElem?_eq_getElem hi)
theorem IsVal.ok {w : World} {F : Nat → Prop} {v : DVal} {cs : List Value} (h : IsVal w F v cs) : okV v := by
  induction h with
  | mk h1 h2 h3 h4 h5 h6 h7 h8 h9 h10 h11 hA hC hP h12 h13 ih =>
    simp only [okV, okVs_iff]
    refine ⟨h1, h2, h3, h5, h7, h9, h11, h13, fun p hp => ?_⟩
    obtain ⟨i, hi, rfl⟩ := List.getElem_of_mem hp
    exact ih i _ (List.getElem?_eq_getElem hi)

section
variable {P : Program} {w : World} {η : Names} {X : Nat → Nat → Prop}
theorem rep_scalars {F : Nat → Prop} {α : Type} (g : α → Value) (h1 : ∀ a, (g a).oneCell' = true) (hX : ∀ b i, F b → X b i) {A : Option Addr} {c : Nat} {l : List α} (h : RF w F 1 A l.length (l.map g)) (hc : l.length ≤ c) (hn : l.length ≤ 140737488351232) :
    Rep P w η X (.sl .no (l.map fun a => .v (g a))) (.slice A l.length c) := by
  simp only [Rep]
  refine ⟨A, c, by rw [List.length_map], by rw [List.length_map]; exact hc, by rw [List.length_map]; omega, trivial, fun h0 => ?_⟩
  rw [List.length_map] at h0
  obtain ⟨b, o, e, hb, hr⟩ := h.2 h0
  refine ⟨b, o, 1, e, by omega, RepE.mk fun i d hd => ?_⟩
  rw [List.getElem?_map] at hd
  cases hi : l[i]? with
  | none => rw [hi] at hd; cases hd
  | some a =>
    rw [hi] at hd
    injection hd with hd
    subst hd
    have hcell := hr i (g a) (by rw [List.getElem?_map, hi]; rfl)
    rw [Nat.mul_one]
    exact ⟨by simp only [RepA], fun _ => ⟨rfl, hX _ _ hb, g a, hcell, h1 a, by simp only [Rep]⟩⟩
theorem rep_structs {F : Nat → Prop} {α : Type} (e : α → D) (z : Nat) (hz : 0 < z) (hX : ∀ b i, F b → X b i) {A : Option Addr} {c b o : Nat} {l : List α} {C : Nat → List Value} (hA : 0 < l.length → A = some ⟨b, o, none⟩ ∧ F b)
    (hC : ∀ i a, l[i]? = some a → (C i).length = z ∧ w.rangeAt b (o + i * z) (C i)) (hR : ∀ i a, l[i]? = some a → Rep P w η X (e a) (.agg (C i).toArray)) (hagg : ∀ a, (e a).isAgg = true) (hc : l.length ≤ c) (hn : l.length ≤ 140737488351232) :
    Rep P w η X (.sl .no (l.map e)) (.slice A l.length c) := by
  simp only [Rep]
  refine ⟨A, c, by rw [List.length_map], by rw [List.length_map]; exact hc, by rw [List.length_map]; omega, trivial, fun h0 => ?_⟩
  rw [List.length_map] at h0
  refine ⟨b, o, z, (hA h0).1, hz, RepE.mk fun i d hd => ?_⟩
  rw [List.getElem?_map] at hd
  cases hi : l[i]? with
  | none => rw [hi] at hd; cases hd
  | some a =>
    rw [hi] at hd
    injection hd with hd
    subst hd
    have h1 := hR i a hi
    obtain ⟨h2, h3⟩ := hC i a hi
    cases he : e a with
    | agg ds =>
      rw [he] at h1
      simp only [Rep] at h1
      obtain ⟨vs, h4, h5, h6⟩ := h1
      have : C i = vs := by
        injection h4 with h4
        have := congrArg Array.toList h4
        simpa using this
      rw [this] at h2 h3
      have hlen : ds.length = z := by rw [← h5.length, h2]
      exact ⟨by simp only [RepA]; exact ⟨hlen, RepC.mk h5 h3 (fun j _ => hX _ _ (hA h0).2) h6⟩, fun h => by simp [D.isAgg] at h⟩
    | _ => have := hagg a; rw [he] at this; simp [D.isAgg] at this
theorem encS_agg (s : DSch) : (encS s).isAgg = true := by rw [encS_eq]; rfl
theorem encV_agg (v : DVal) : (encV v).isAgg = true := by rw [encV_eq]; rfl
theorem rep_sch {F : Nat → Prop} (hX : ∀ b i, F b → X b i) {s : DSch} {cs : List Value} (h : IsSch w F s cs) : Rep P w η X (encS s) (.agg cs.toArray) := by
  induction h with
  | mk h1 h2 h3 h4 h5 hA hC hP h6 h7 ih =>
    have r1 := rep_scalars (P := P) (η := η) sv (fun _ => rfl) hX h2 h4 h5
    have r2 := rep_structs (P := P) (η := η) encS 3 (by omega) hX hA hC ih encS_agg h6 h7
    simp only [encS, encSs_map, Rep, RepL]
    refine ⟨_, rfl, ⟨_, _, rfl, rfl, _, _, rfl, r1, _, _, rfl, r2, rfl⟩, by simp [Value.oneCell']⟩
theorem rep_val {F : Nat → Prop} (hX : ∀ b i, F b → X b i) {v : DVal} {cs : List Value} (h : IsVal w F v cs) : Rep P w η X (encV v) (.agg cs.toArray) := by
  induction h with
  | mk h1 h2 h3 h4 h5 h6 h7 h8 h9 h10 h11 hA hC hP h12 h13 ih =>
    have r1 := rep_scalars (P := P) (η := η) sv (fun _ => rfl) hX h4 h6 h7
    have r2 := rep_scalars (P := P) (η := η) uv (fun _ => rfl) hX h8 h10 h11
    have r3 := rep_structs (P := P) (η := η) encV 6 (by omega) hX hA hC ih encV_agg h12 h13
    simp only [encV, encVs_map, strD, Rep, RepL]
    refine ⟨_, rfl, ⟨_, _, rfl, rfl, _, _, rfl, rfl, _, _, rfl, rfl, _, _, rfl, r1, _, _, rfl, r2, _, _, rfl, r3, rfl⟩, by simp [Value.oneCell']⟩
theorem scalars_of_rep {α : Type} (g : α → Value) {own : Own} {l : List α} {y : Value} (h : Rep P w η X (.sl own (l.map fun a => .v (g a))) y) : ∃ A c, y = .slice A l.length c ∧ l.length ≤ c ∧ RF w (· < w.heap.size) 1 A l.length (l.map g) := by
  simp only [Rep] at h
  obtain ⟨A, c, rfl, h1, _, _, h2⟩ := h
  rw [List.length_map] at *
  refine ⟨A, c, rfl, h1, by simp, fun h0 => ?_⟩
  obtain ⟨b, o, z, rfl, hz, hr⟩ := h2 h0
  have hel : ∀ j a, l[j]? = some a → w.cell? ⟨b, o + j, none⟩ = some (g a) := fun j a hj => by
    have := RepE.get j hr (d := .v (g a)) (by rw [List.getElem?_map, hj]; rfl)
    obtain ⟨e1, _, x, e2, _, e3⟩ := this.2 rfl
    simp only [Rep] at e3
    rw [e1, Nat.mul_one] at e2
    rw [e2, e3]
  refine ⟨b, o, rfl, ?_, fun j u hu => ?_⟩
  · have h3 := hel 0 _ (List.getElem?_eq_getElem h0)
    exact World.block_lt_of_cell? w _ h3
  · rw [List.getElem?_map] at hu
    cases hj : l[j]? with
    | none => rw [hj] at hu; cases hu
    | some a =>
      rw [hj] at hu
      injection hu with hu
      rw [← hu]
      exact hel j a hj
theorem structs_of_rep {α : Type} (e : α → D) (hagg : ∀ a, (e a).isAgg = true) {own : Own} {l : List α} {y : Value} {z : Nat} (hw : ∀ a, (e a).width = z) (hz : 0 < z) (h : Rep P w η X (.sl own (l.map e)) y) :
    ∃ A c b o, ∃ C : Nat → List Value, y = .slice A l.length c ∧ l.length ≤ c ∧ (0 < l.length → A = some ⟨b, o, none⟩ ∧ b < w.heap.size) ∧ (∀ i a, l[i]? = some a → (C i).length = z ∧ w.rangeAt b (o + i * z) (C i)) ∧ ∀ i a, l[i]? = some a → Rep P w η X (e a) (.agg (C i).toArray) := by
  simp only [Rep] at h
  obtain ⟨A, c, rfl, h1, _, _, h2⟩ := h
  rw [List.length_map] at *
  rcases Nat.eq_zero_or_pos l.length with h0 | h0
  · have : l = [] := List.eq_nil_of_length_eq_zero h0
    subst this
    exact ⟨A, c, 0, 0, fun _ => [], rfl, h1, fun h => absurd h (by simp), fun i a ha => by simp at ha, fun i a ha => by simp at ha⟩
  obtain ⟨b, o, z', rfl, hz', hr⟩ := h2 h0
  have key : ∀ i, i < l.length → ∃ vs : List Value, vs.length = z ∧ w.rangeAt b (o + i * z) vs ∧ ∀ a, l[i]? = some a → Rep P w η X (e a) (.agg vs.toArray) := fun i hi => by
    have hel := (RepE.get i hr (d := e l[i]) (by rw [List.getElem?_map, List.getElem?_eq_getElem hi]; rfl)).cells
    have hzz : z' = z := by rw [← hel.1, hw]
    subst hzz
    obtain ⟨vs, k1, k2, k3, k4⟩ := hel.2.range
    refine ⟨vs, by rw [k1]; exact hel.1, k2, fun a ha => ?_⟩
    rw [List.getElem?_eq_getElem hi] at ha
    injection ha with ha
    subst ha
    have hg := hagg l[i]
    revert k3 hg
    cases e l[i] with
    | agg ds => intro k3 _; simp only [Rep]; exact ⟨vs, rfl, k3, k4⟩
    | _ => intro _ hg; simp [D.isAgg] at hg
  refine ⟨_, c, b, o, fun i => if hi : i < l.length then Classical.choose (key i hi) else [], rfl, h1, fun _ => ⟨rfl, ?_⟩, fun i a ha => ?_, fun i a ha => ?_⟩
  · have hk := Classical.choose_spec (key 0 h0)
    have := hk.2.1 0 (Classical.choose (key 0 h0))[0] (List.getElem?_eq_getElem (by rw [hk.1]; exact hz))
    exact World.block_lt_of_cell? w _ this
  · have hi : i < l.length := (List.getElem?_eq_some_iff.1 ha).1
    dsimp only
    rw [dif_pos hi]
    have hk := Classical.choose_spec (key i hi)
    exact ⟨hk.1, hk.2.1⟩
  · have hi : i < l.length := (List.getElem?_eq_some_iff.1 ha).1
    dsimp only
    rw [dif_pos hi]
    exact (Classical.choose_spec (key i hi)).2.2 a ha
theorem width_encS (s : DSch) : (encS s).width = 3 := by rw [encS_eq]; rfl
theorem width_encV (v : DVal) : (encV v).width = 6 := by rw [encV_eq]; rfl
theorem sch_of_rep : ∀ (n : Nat) (s : DSch), s.depth ≤ n → okS s → ∀ {y : Value}, Rep P w η X (encS s) y → ∃ cs : List Value, y = .agg cs.toArray ∧ IsSch w (· < w.heap.size) s cs
  | 0, s, h, _, _, _ => by have := s.depth_pos; omega
  | n + 1, s, hd, hok, y, h => by
    have hdp : ∀ p ∈ s.parts, p.depth < s.depth := fun p hp => DSch.depth_part hp
    obtain ⟨o1, o2, o3, o4, o5⟩ := (okS_eq s).1 hok
    rw [encS_eq] at h
    simp only [Rep, RepL] at h
    obtain ⟨vs, rfl, ⟨_, _, rfl, rfl, _, _, rfl, h2, _, _, rfl, h3, rfl⟩, _⟩ := h
    have h2' := scalars_of_rep (P := P) (w := w) (η := η) (X := X) sv (own := .no) (l := s.words) (by simp only [Rep]; exact h2)
    have h3' := structs_of_rep (P := P) (w := w) (η := η) (X := X) encS encS_agg (own := .no) (l := s.parts) width_encS (by omega) (by simp only [Rep]; exact h3)
    obtain ⟨A1, c1, rfl, g1, g2⟩ := h2'
    obtain ⟨A2, c2, b, o, C, rfl, k1, k2, k3, k4⟩ := h3'
    refine ⟨_, rfl, ?_⟩
    obtain ⟨k, ws, ps⟩ := s
    refine .mk o1 g2 o2 g1 o3 k2 k3 (fun i p hp => ?_) k1 o4
    obtain ⟨cs, e1, e2⟩ := sch_of_rep n p (by have := hdp p (List.mem_of_getElem? hp); omega) (o5 p (List.mem_of_getElem? hp)) (k4 i p hp)
    have : C i = cs := by
      injection e1 with e1
      have := congrArg Array.toList e1
      simpa using this
    rw [this]
    exact e2
theorem val_of_rep : ∀ (n : Nat) (s : DVal), s.depth ≤ n → okV s → ∀ {y : Value}, Rep P w η X (encV s) y → ∃ cs : List Value, y = .agg cs.toArray ∧ IsVal w (· < w.heap.size) s cs
  | 0, s, h, _, _, _ => by have := s.depth_pos; omega
  | n + 1, s, hd, hok, y, h => by
    have hdp : ∀ p ∈ s.parts, p.depth < s.depth := fun p hp => DVal.depth_part hp
    obtain ⟨o1, o2, o3, o4, o5, o6, o7, o8, o9⟩ := (okV_eq s).1 hok
    rw [encV_eq] at h
    simp only [strD, Rep, RepL] at h
    obtain ⟨vs, rfl, ⟨_, _, rfl, rfl, _, _, rfl, rfl, _, _, rfl, rfl, _, _, rfl, h2, _, _, rfl, h4, _, _, rfl, h3, rfl⟩, _⟩ := h
    have h2' := scalars_of_rep (P := P) (w := w) (η := η) (X := X) sv (own := .no) (l := s.names) (by simp only [Rep]; exact h2)
    have h4' := scalars_of_rep (P := P) (w := w) (η := η) (X := X) uv (own := .no) (l := s.ids) (by simp only [Rep]; exact h4)
    have h3' := structs_of_rep (P := P) (w := w) (η := η) (X := X) encV encV_agg (own := .no) (l := s.parts) width_encV (by omega) (by simp only [Rep]; exact h3)
    obtain ⟨A1, c1, rfl, g1, g2⟩ := h2'
    obtain ⟨A3, c3, rfl, g3, g4⟩ := h4'
    obtain ⟨A2, c2, b, o, C, rfl, k1, k2, k3, k4⟩ := h3'
    refine ⟨_, rfl, ?_⟩
    obtain ⟨k, n', s', ns, is, ps⟩ := s
    refine .mk o1 o2 o3 g2 o4 g1 o5 g4 o6 g3 o7 k2 k3 (fun i p hp => ?_) k1 o8
    obtain ⟨cs, e1, e2⟩ := val_of_rep n p (by have := hdp p (List.mem_of_getElem? hp); omega) (o9 p (List.mem_of_getElem? hp)) (k4 i p hp)
    have : C i = cs := by
      injection e1 with e1
      have := congrArg Array.toList e1
      simpa using this
    rw [this]
    exact e2
end
/-! ### Over memory, and over trees -/
section
variable {P : Program} {base : Nat} {S : St} {η : Names} {w : World}
theorem goes_below (h : Mem P base S η w) {w' : World} (hb : Below w.heap.size w w') (hmo : mo = true → w.drawn ≤ w'.drawn) : Goes P base S η w S η w' := by
  have K : Keep (fun _ => True) w η (Fix P S η) w' η (Fix P S η) := ⟨hb.size, fun b i hlt hx => ⟨hx, hb.cell (p := ⟨b, i, none⟩) hlt⟩, fun _ _ _ hx => hx, fun b cur _ hx => ⟨cur, by rw [hb.block b ((Array.getElem?_eq_some_iff.1 hx).1)]; exact hx, rfl⟩⟩
  refine ⟨⟨Nat.le_trans h.base_ hb.size, h.dead, h.fresh, h.live, h.inj, fun k b hk => ⟨(h.in_ k b hk).1, Nat.lt_of_lt_of_le (h.in_ k b hk).2 hb.size⟩, fun k t cs b h1 h2 => ?_, fun k e n b h1 h2 => ?_, h.glob.below (hb.mono h.base_), fun k b l hk => ?_⟩, K, hb.mono h.base_, hmo, Loops.of_below hb⟩
  · obtain ⟨vs, k1, k2, k3⟩ := h.box k t cs b h1 h2
    exact ⟨vs, by rw [hb.block b (h.in_ k b h2).2]; exact k1, RepL.keep K (allL_true _) k2, k3⟩
  · obtain ⟨cur, k1, k2⟩ := h.row k e n b h1 h2
    exact ⟨cur, by rw [hb.block b (h.in_ k b h2).2]; exact k1, k2⟩
  · obtain ⟨k1, es, c, k2, k3⟩ := h.mp k b l hk
    exact ⟨k1, es, c, by rw [hb.block b (h.in_ k b k1).2]; exact k2, k3⟩
theorem dpure_of_gives {g : FuncId} {args : List D} {v : Value} (hent : ∀ vs w, (callFunc g vs).run P w = .ok (.enter g vs) w) (h : ∀ (w : World) (η : Names) (X : Nat → Nat → Prop) (vs : List Value), RepL P w η X args vs → Calls P g vs.toArray w (Gives v w)) (hmo : mo = false := by rfl) : DPure P g args (.v v) :=
  fun _ _ η w vs hM hr => .inl ⟨hent _ _, (h w η _ vs hr).mono fun _ _ ⟨he, hb⟩ => ⟨.v v, _, η, v, ⟨rfl, rfl⟩, he, by simp only [Rep], goes_below hM hb (by rw [hmo]; intro h; cases h)⟩⟩
def St.nil : St := ⟨0, fun _ => none⟩
theorem mem_nil (w : World) (hg : GlobOk w.heap.size w) : Mem P w.heap.size St.nil (fun _ => none) w := ⟨Nat.le_refl _, fun _ _ => rfl, fun _ _ => rfl, (fun _ _ _ h => by cases h), (fun _ _ _ h => by cases h), (fun _ _ h => by cases h), (fun _ _ _ _ h => by cases h), (fun _ _ _ _ h => by cases h), hg, fun _ _ _ h => by cases h⟩
theorem fix_nil (b i : Nat) : Fix P St.nil (fun _ => none) b i := fun _ _ h => by cases h
end
theorem empty_toList : (⟨#[]⟩ : ByteArray).toList = [] := by rw [Go.Lib.toList_data]
theorem cells_encV (v : DVal) : (encV v).cells.length = 6 := width_encV v
theorem cells_encS (s : DSch) : (encS s).cells.length = 3 := width_encS s
theorem agg_encV (v : DVal) : D.agg (encV v).cells = encV v := by rw [encV_eq]; rfl
theorem agg_encS (s : DSch) : D.agg (encS s).cells = encS s := by rw [encS_eq]; rfl
theorem take_encV (v : DVal) : (encV v).cells.take 6 = (encV v).cells := List.take_of_length_le (by rw [cells_encV]; omega)
theorem take_encS (s : DSch) : (encS s).cells.take 3 = (encS s).cells := List.take_of_length_le (by rw [cells_encS]; omega)
theorem okCell_encV (v : DVal) : (encV v).okCell = true := by rw [encV_eq]; rfl
theorem okCell_encS (s : DSch) : (encS s).okCell = true := by rw [encS_eq]; rfl
theorem cut_guard {P : Program} {x : D} {want : Bool} {f : Fm} {S : St} {ty : TypeId} {op : Op} {ops : Array Oper} {R J : Fm → St → Prop} {r : List Oper} {dst : Option Tmp} (J' : Fm → St → Prop) (hJ : J = J') (h : ∀ f S, J f S → R f S)
    (k : dguard x want (dopF P f S ty op (dnext P ops J r f dst)) (dskip P ops J r f dst S)) : dguard x want (dopF P f S ty op (dnext P ops R r f dst)) (dskip P ops R r f dst S) := by
  cases x with
  | v u => cases u with
    | bool b => exact ⟨fun e => dop_mono (fun d S' hd => dops_mono h r hd) (k.1 e), fun e => dops_mono h r (k.2 e)⟩
    | _ => exact k
  | tup l => cases l with
    | nil => exact dops_mono h r k
    | cons d l => exact k
  | _ => exact k
attribute [go_sem] empty_toList strB_size cells_encV cells_encS agg_encV agg_encS take_encV take_encS okCell_encV okCell_encS strD u64D
end Go.Proofs.YtogbklnkpjjkoaaGreatDoor

namespace Go.Proofs.YtogbklnkpjjkoaaGreatDoor
open Go.ChangeShapes Go.WideShapes Go.ChangeAt Go.RowKit Go.Deep Go.Joins
section
variable {H : Type} {enc : TypeId × Value → H} {w : World}
theorem trod_struct2 {P : Program} {t : TypeId} {f0 f1 : Field} {fuel : Nat} {cs : List Value} {x : DataW H × List MemPlace} (ht : P.underlying t = some (.struct #[f0, f1])) (h : DataW.trod enc P w 0 (fun _ => true) true fuel t cs = some x) :
    ∃ y0 y1 n, x.1 = .agg [y0.1, y1.1] ∧ cs.length = P.cellsOf t ∧ DataW.trod enc P w 0 (fun _ => true) true n f0.type ((cs.drop f0.offset).take (P.cellsOf f0.type)) = some y0 ∧
      DataW.trod enc P w 0 (fun _ => true) true n f1.type ((cs.drop f1.offset).take (P.cellsOf f1.type)) = some y1 := by
  obtain ⟨xs, n, _, rfl, hl, hlen, hf⟩ := DataW.trod_struct ht h
  match xs, hlen with
  | [y0, y1], _ => exact ⟨y0, y1, n, by simp, hl, by simpa using hf 0 f0 rfl, by simpa using hf 1 f1 rfl⟩
theorem open_structs_trod {P : Program} {α : Type} (e : α → D) {t el : TypeId} {size bytes : Nat} (ht : P.underlying t = some (.slice el)) (hc : P.cellsOf el = size) (hs0 : 0 < size) (hby : P.bytesOf el = bytes) (hb0 : 0 < bytes) (Q : α → List Value → Prop)
    (elem : ∀ (fuel : Nat) (cs : List Value) (x : DataW H × List MemPlace), DataW.trod enc P w 0 (fun _ => true) true fuel el cs = some x → Sized P el x.1 → cs.length = size → ∃ d, Q d cs)
    (hw : ∀ a, (e a).width = size) (hag : ∀ a, (e a).isAgg = true) (hrep : ∀ d cs, Q d cs → ∀ (η : Names) (X : Nat → Nat → Prop), (∀ b i, X b i) → Rep P w η X (e d) (.agg cs.toArray))
    {fuel : Nat} {cs : List Value} {x : DataW H × List MemPlace} (h : DataW.trod enc P w 0 (fun _ => true) true fuel t cs = some x) (hs : Sized P t x.1) :
    ∃ l : List α, (∀ a ∈ l, ∃ cs, Q a cs) ∧ l.length ≤ 140737488351232 ∧ ∃ u, cs = [u] ∧ ∀ (η : Names) (X : Nat → Nat → Prop), (∀ b i, X b i) → Rep P w η X (.sl .no (l.map e)) u := by
  obtain ⟨A, c, l, hcs, hlc, hr, hb⟩ := open_rows_trod (α := α × List Value) ht hc hs0 hby hb0 (fun b o d => d.2.length = size ∧ Q d.1 d.2 ∧ w.rangeAt b o d.2) (fun fuel cs x b o _ hx hsx hlen hcell => by
    obtain ⟨d, hd⟩ := elem fuel cs x hx hsx hlen
    exact ⟨(d, cs), hlen, hd, hcell⟩) h hs
  have hbb : l.length ≤ 140737488351232 := by
    have : c * 1 ≤ c * bytes := Nat.mul_le_mul_left _ hb0
    omega
  refine ⟨l.map (·.1), fun a ha => ?_, by rw [List.length_map]; exact hbb, _, hcs, fun η X hX => ?_⟩
  · obtain ⟨d, hd, rfl⟩ := List.mem_map.1 ha
    obtain ⟨i, hi, rfl⟩ := List.getElem_of_mem hd
    obtain ⟨b, o, _, _, hf⟩ := hr (by omega)
    exact ⟨_, (hf i _ (List.getElem?_eq_getElem hi)).2.1⟩
  · rcases Nat.eq_zero_or_pos l.length with h0 | h0
    · obtain rfl : l = [] := List.eq_nil_of_length_eq_zero h0
      simp only [Rep, List.map_nil, List.length_nil]
      exact ⟨A, c, rfl, Nat.zero_le _, by omega, trivial, fun h => absurd h (by omega)⟩
    · obtain ⟨b, o, rfl, hbl, hf⟩ := hr h0
      have hget : ∀ (i : Nat) (a : α), (l.map (·.1))[i]? = some a → ∃ C, l[i]? = some (a, C) ∧ ((l[i]?.map (·.2)).getD []) = C := by
        intro i a ha
        rw [List.getElem?_map] at ha
        cases hi : l[i]? with
        | none => rw [hi] at ha; cases ha
        | some d =>
          rw [hi] at ha
          obtain ⟨d1, d2⟩ := d
          simp at ha
          exact ⟨d2, by rw [ha], rfl⟩
      have hlen : l.length = (l.map (·.1)).length := by simp
      rw [hlen] at hlc hbb ⊢
      refine rep_structs (F := (· < w.heap.size)) e size hs0 (fun b i _ => hX b i) (b := b) (o := o) (C := fun i => (l[i]?.map (·.2)).getD []) (fun _ => ⟨rfl, hbl⟩) (fun i a ha => ?_) (fun i a ha => ?_) hag hlc hbb
      · obtain ⟨C, h1, h2⟩ := hget i a ha
        simp only [h2]
        have := hf i _ h1
        exact ⟨this.1, this.2.2⟩
      · obtain ⟨C, h1, h2⟩ := hget i a ha
        simp only [h2]
        exact hrep a C (hf i _ h1).2.1 η X hX
end
end Go.Proofs.YtogbklnkpjjkoaaGreatDoor

namespace Go.Proofs.YtogbklnkpjjkoaaGreatDoor
open Go.RowKit
def bad1 (kd num : Int) (xl nn ni : Nat) : Prop := kd < 1 ∨ 6 < kd ∨ (kd ≠ 1 ∧ kd ≠ 2 ∧ num ≠ 0) ∨ (kd ≠ 3 ∧ kd ≠ 4 ∧ 0 < xl) ∨ (kd ≠ 5 ∧ 0 < nn) ∨ (kd ≠ 6 ∧ 0 < ni)
instance (kd num : Int) (xl nn ni : Nat) : Decidable (bad1 kd num xl nn ni) := by unfold bad1; exact inferInstance
def bad2 (kd num : Int) (xl nn ni np : Nat) (bn : Bool) : Prop := (kd = 1 ∧ num ≠ 0 ∧ num ≠ 1) ∨ (kd = 3 ∧ 64 < xl) ∨ (kd = 4 ∧ bn = false) ∨ 8 < nn ∨ 12 < ni ∨ np ≠ nn + ni
instance (kd num : Int) (xl nn ni np : Nat) (bn : Bool) : Decidable (bad2 kd num xl nn ni np bn) := by unfold bad2; exact inferInstance
def hereV (v : DVal) : Bool := (!decide (bad1 v.kind v.n v.s.length v.names.length v.ids.length) && !decide (bad2 v.kind v.n v.s.length v.names.length v.ids.length v.parts.length (nameB v.s))) && ((List.range v.names.length).all (riseOk v.names) && (List.range v.ids.length).all (idOk v.ids))
def soundV : Nat → DVal → Bool
  | 0, _ => true
  | k + 1, v => hereV v && v.parts.all (soundV k)
theorem all_not {l : Nat} {p : Nat → Bool} {i : Nat} (h : i < l) (hp : p i = false) : (List.range l).all p = false := List.all_eq_false.2 ⟨i, List.mem_range.2 h, by simp [hp]⟩
theorem all_of {l : Nat} {p : Nat → Bool} (h : ∀ j, j < l → p j = true) : (List.range l).all p = true := List.all_eq_true.2 fun j hj => h j (List.mem_range.1 hj)
theorem getD_at {α : Type} {l : List α} {i : Nat} {d : α} (h : i < l.length) : l.getD i d = l[i] := by simp [List.getD, h]
theorem leq_not (x y : Str) : (Op.bytesLess x y || x == y) = !sLt y x := by
  have h1 := sLt_iff x y
  have h2 := sLt_iff y x
  rw [show Op.bytesLess x y = sLt x y from rfl, h1, h2, Bool.eq_iff_iff]
  simp only [Bool.or_eq_true, decide_eq_true_eq, beq_iff_eq, Bool.not_eq_true', decide_eq_false_iff_not, List.not_lt]
  constructor
  · rintro (h | h)
    · exact List.le_of_lt h
    · rw [h]; exact List.le_refl y
  · intro h
    by_cases e : x = y
    · exact .inr e
    · exact .inl (Classical.byContradiction fun hn => e (List.le_antisymm h (List.not_lt.1 hn)))
end Go.Proofs.YtogbklnkpjjkoaaGreatDoor

namespace Go.Proofs.YtogbklnkpjjkoaaGreatDoor
open Go.RowKit
theorem plain_hereV (v : DVal) : plainV v = hereV v := by
  unfold plainV hereV riseV idsB
  have hR0 : v.names.length = 0 → (List.range v.names.length).all (riseOk v.names) = true := fun h => by rw [h]; rfl
  have hI0 : v.ids.length = 0 → (List.range v.ids.length).all (idOk v.ids) = true := fun h => by rw [h]; rfl
  have hs : decide (v.s = []) = decide (v.s.length = 0) := by rw [decide_eq_decide, List.length_eq_zero_iff]
  rw [hs]
  have hR : (List.range v.names.length).all (riseOk v.names) = true ∨ ((List.range v.names.length).all (riseOk v.names) = false ∧ 0 < v.names.length) := by
    cases h : (List.range v.names.length).all (riseOk v.names) with
    | true => exact .inl rfl
    | false => exact .inr ⟨rfl, Nat.pos_of_ne_zero fun e => by rw [hR0 e] at h; cases h⟩
  have hI : (List.range v.ids.length).all (idOk v.ids) = true ∨ ((List.range v.ids.length).all (idOk v.ids) = false ∧ 0 < v.ids.length) := by
    cases h : (List.range v.ids.length).all (idOk v.ids) with
    | true => exact .inl rfl
    | false => exact .inr ⟨rfl, Nat.pos_of_ne_zero fun e => by rw [hI0 e] at h; cases h⟩
  clear hR0 hI0 hs
  generalize (List.range v.names.length).all (riseOk v.names) = R at *
  generalize (List.range v.ids.length).all (idOk v.ids) = J at *
  generalize nameB v.s = bn at *
  generalize v.kind = kd at *
  generalize v.n = n at *
  generalize v.s.length = xl at *
  generalize v.names.length = nn at *
  generalize v.ids.length = ni at *
  generalize v.parts.length = np at *
  have hk : kd = 1 ∨ kd = 2 ∨ kd = 3 ∨ kd = 4 ∨ kd = 5 ∨ kd = 6 ∨ (kd < 1 ∨ 6 < kd) := by omega
  rw [Bool.eq_iff_iff]
  rcases hR with rfl | ⟨rfl, hR⟩ <;> rcases hI with rfl | ⟨rfl, hI⟩ <;> cases bn <;> rcases hk with rfl | rfl | rfl | rfl | rfl | rfl | hk
  all_goals first
    | (simp only [Int.reduceEq, reduceIte, Bool.and_eq_true, decide_eq_true_eq, Bool.not_eq_true', decide_eq_false_iff_not, Bool.false_eq_true, Bool.or_eq_true, and_true, true_and, and_false, false_and, false_iff, iff_false] <;> (try simp only [bad1, bad2, Int.reduceEq, Int.reduceLT, Bool.false_eq_true, Bool.true_eq_false, and_true, and_false, true_and, false_and, false_or, or_false, true_or, or_true, ne_eq, not_true_eq_false, not_false_eq_true]) <;> omega)
    | (rw [if_neg (by omega), if_neg (by omega), if_neg (by omega), if_neg (by omega), if_neg (by omega), if_neg (by omega)]; simp only [Bool.and_eq_true, decide_eq_true_eq, Bool.not_eq_true', decide_eq_false_iff_not, Bool.false_eq_true, Bool.or_eq_true, and_true, true_and, and_false, false_and, false_iff, iff_false] <;> (try simp only [bad1, bad2, Bool.false_eq_true, Bool.true_eq_false, and_true, and_false, true_and, false_and, false_or, or_false, true_or, or_true, ne_eq, not_true_eq_false, not_false_eq_true]) <;> omega)
theorem depthsV_all (l : List DVal) (k : Nat) : DVal.depths l ≤ k ↔ ∀ p ∈ l, p.depth ≤ k := by
  induction l with
  | nil => simp [DVal.depths]
  | cons x l ih =>
    simp only [DVal.depths, List.mem_cons, forall_eq_or_imp]
    rw [← ih]; omega
theorem right_soundV (k : Nat) : ∀ (s : DVal) (m : Nat), s.depth ≤ m → rightV k s = (decide (s.depth ≤ k) && soundV m s) := by
  induction k with
  | zero => intro s m _; have := s.depth_pos; simp [rightV]; omega
  | succ k ih =>
    intro s m hm
    obtain ⟨m, rfl⟩ : ∃ n, m = n + 1 := ⟨m - 1, by have := s.depth_pos; omega⟩
    have hd := s.depth_eq
    rw [Bool.eq_iff_iff]
    simp only [rightV, soundV, Bool.and_eq_true, decide_eq_true_eq, plain_hereV, List.all_eq_true]
    have hall := depthsV_all s.parts
    constructor
    · rintro ⟨h1, h2⟩
      have h3 : ∀ p ∈ s.parts, p.depth ≤ k ∧ soundV m p = true := fun p hp => by
        have := h2 p hp
        rw [ih p m (by have := DVal.depth_part hp; omega)] at this
        simpa using this
      exact ⟨by have := (hall k).2 (fun p hp => (h3 p hp).1); omega, h1, fun p hp => (h3 p hp).2⟩
    · rintro ⟨h0, h1, h2⟩
      refine ⟨h1, fun p hp => ?_⟩
      rw [ih p m (by have := DVal.depth_part hp; omega), h2 p hp, Bool.and_true, decide_eq_true_eq]
      exact (hall k).1 (by omega) p hp
theorem arg_val {P : Program} {w : World} {η : Names} {X : Nat → Nat → Prop} {v : DVal} {vs : List Value} (hok : okV v) (h : RepL P w η X [encV v] vs) : ∃ cs : List Value, vs = [.agg cs.toArray] ∧ IsVal w (· < w.heap.size) v cs := by
  simp only [RepL] at h
  obtain ⟨x, xs, rfl, h1, rfl⟩ := h
  obtain ⟨cs, rfl, hv⟩ := val_of_rep v.depth v (Nat.le_refl _) hok h1
  exact ⟨cs, rfl, hv⟩
theorem arg_sch {P : Program} {w : World} {η : Names} {X : Nat → Nat → Prop} {v : DSch} {vs : List Value} (hok : okS v) (h : RepL P w η X [encS v] vs) : ∃ cs : List Value, vs = [.agg cs.toArray] ∧ IsSch w (· < w.heap.size) v cs := by
  simp only [RepL] at h
  obtain ⟨x, xs, rfl, h1, rfl⟩ := h
  obtain ⟨cs, rfl, hv⟩ := sch_of_rep v.depth v (Nat.le_refl _) hok h1
  exact ⟨cs, rfl, hv⟩
theorem dpure_val {P : Program} {g : FuncId} {v : DVal} {r : Value} (hok : okV v) (hent : ∀ vs w, (callFunc g vs).run P w = .ok (.enter g vs) w) (h : ∀ (w : World) (cs : List Value), IsVal w (· < w.heap.size) v cs → Calls P g #[.agg cs.toArray] w (Gives r w)) (hmo : mo = false := by rfl) : DPure P g [encV v] (.v r) :=
  dpure_of_gives hent (hmo := hmo) fun w η X vs hr => by obtain ⟨cs, rfl, hv⟩ := arg_val hok hr; exact h w cs hv
theorem dpure_sch {P : Program} {g : FuncId} {v : DSch} {r : Value} (hok : okS v) (hent : ∀ vs w, (callFunc g vs).run P w = .ok (.enter g vs) w) (h : ∀ (w : World) (cs : List Value), IsSch w (· < w.heap.size) v cs → Calls P g #[.agg cs.toArray] w (Gives r w)) (hmo : mo = false := by rfl) : DPure P g [encS v] (.v r) :=
  dpure_of_gives hent (hmo := hmo) fun w η X vs hr => by obtain ⟨cs, rfl, hv⟩ := arg_sch hok hr; exact h w cs hv
theorem greatV_d (v : DVal) (hok : okV v) : DPure Tryz.prog 57 [encV v] (.v (.bool (decide (roomV 12 v 300 < 0)))) := dpure_val hok (fun _ _ => by kernel_rfl) fun w cs h => greatV_calls v cs w h
theorem valRight_d (v : DVal) (hok : okV v) : DPure Tryz.prog 143 [encV v] (.v (.bool (rightV 5 v))) := dpure_val hok (fun _ _ => by kernel_rfl) fun w cs h => valRightP_calls v cs w h
theorem sne1_0 (n : Nat) : (n + 1 = n) = False := eq_false (by omega)
theorem sne0_1 (n : Nat) : (n = n + 1) = False := eq_false (by omega)
theorem sne3_0 (n : Nat) : (n + 3 = n) = False := eq_false (by omega)
attribute [go_sem] sne1_0 sne0_1 sne3_0
theorem strArg {P : Program} {w : World} {η : Names} {X : Nat → Nat → Prop} {own : Own} {l : List Str} {y : Value} (h : Rep P w η X (.sl own (l.map strD)) y) : ∃ A c, y = .slice A l.length c ∧ l.length ≤ c ∧ RF w (· < w.heap.size) 1 A l.length (l.map sv) := scalars_of_rep sv h
def RV (v : DVal) : Prop := ∃ m, v.depth ≤ m ∧ soundV m v = true
def RS (s : DSch) : Prop := ∃ m, s.depth ≤ m ∧ soundS m s = true
theorem RV.part {v p : DVal} (h : RV v) (hp : p ∈ v.parts) : RV p := by
  obtain ⟨m, h1, h2⟩ := h
  obtain ⟨m, rfl⟩ : ∃ n, m = n + 1 := ⟨m - 1, by have := v.depth_pos; omega⟩
  rw [soundV, Bool.and_eq_true] at h2
  exact ⟨m, by have := DVal.depth_part hp; omega, List.all_eq_true.1 h2.2 p hp⟩
theorem RS.part {v p : DSch} (h : RS v) (hp : p ∈ v.parts) : RS p := by
  obtain ⟨m, h1, h2⟩ := h
  obtain ⟨m, rfl⟩ : ∃ n, m = n + 1 := ⟨m - 1, by have := v.depth_pos; omega⟩
  rw [soundS, Bool.and_eq_true] at h2
  exact ⟨m, by have := DSch.depth_part hp; omega, List.all_eq_true.1 h2.2 p hp⟩
theorem RV.here {v : DVal} (h : RV v) : (v.kind ≠ 5 → v.names.length = 0) ∧ (v.kind ≠ 6 → v.ids.length = 0) ∧ v.parts.length = v.names.length + v.ids.length := by
  obtain ⟨m, h1, h2⟩ := h
  obtain ⟨m, rfl⟩ : ∃ n, m = n + 1 := ⟨m - 1, by have := v.depth_pos; omega⟩
  rw [soundV, Bool.and_eq_true, hereV, Bool.and_eq_true, Bool.and_eq_true, Bool.not_eq_true', Bool.not_eq_true', decide_eq_false_iff_not, decide_eq_false_iff_not] at h2
  have h3 := h2.1.1.1
  have h4 := h2.1.1.2
  unfold bad1 at h3
  unfold bad2 at h4
  omega
theorem RS.here {s : DSch} (h : RS s) : (s.kind = 5 → s.parts.length = s.words.length) ∧ (s.kind = 6 → s.parts.length = 1) := by
  obtain ⟨m, h1, h2⟩ := h
  obtain ⟨m, rfl⟩ : ∃ n, m = n + 1 := ⟨m - 1, by have := s.depth_pos; omega⟩
  rw [soundS, Bool.and_eq_true, hereS, Bool.and_eq_true, Bool.and_eq_true, decide_eq_true_eq] at h2
  have h3 := h2.1.2.1
  unfold wantS at h3
  exact ⟨fun h => by rw [if_pos h] at h3; exact h3, fun h => by rw [if_neg (by omega), if_pos h] at h3; exact h3⟩
def headF (v : DVal) (s : DSch) : Bool := decide (v.kind = s.kind) && ((!decide (v.kind = 4) || decide (v.s ∈ s.words)) && (!decide (v.kind = 5) || decide (v.names = s.words)))
def atF (s : DSch) (i : Nat) : Nat := if s.kind = 6 then 0 else i
def fitsV : Nat → DVal → DSch → Bool
  | 0, _, _ => true
  | k + 1, v, s => headF v s && (List.range v.parts.length).all fun i => fitsV k (v.parts.getD i default) (s.parts.getD (atF s i) default)
theorem atF_lt {v : DVal} {s : DSch} (hv : RV v) (hs : RS s) (h : headF v s = true) {i : Nat} (hi : i < v.parts.length) : atF s i < s.parts.length := by
  have h1 := hv.here
  have h2 := hs.here
  rw [headF, Bool.and_eq_true, decide_eq_true_eq, Bool.and_eq_true] at h
  obtain ⟨hk, _, hn⟩ := h
  unfold atF
  by_cases h6 : s.kind = 6
  · rw [if_pos h6, h2.2 h6]; omega
  · rw [if_neg h6]
    by_cases h5 : v.kind = 5
    · rw [h5] at hn
      have : v.names = s.words := by simpa using hn
      rw [h2.1 (by omega), ← this]; omega
    · omega
theorem RV.of_right {v : DVal} (h : rightV 5 v = true) : RV v := ⟨v.depth, Nat.le_refl _, by
  have := right_soundV 5 v v.depth (Nat.le_refl _)
  rw [h] at this
  exact (Bool.and_eq_true _ _ ▸ this.symm).2⟩
end Go.Proofs.YtogbklnkpjjkoaaGreatDoor

namespace Go.Proofs.YtogbklnkpjjkoaaGreatDoor
open Go.RowKit
def rowOb (S : St) (own : Own) (e : TypeId) (n : Nat) : Nat → Option Ob := fun k => match own with
  | .row g => if k = g then some (.row e n) else S.ob k
  | _ => S.ob k
theorem row_sub {S : St} (hS : S.WF) {e : TypeId} {own : Own} {i n : Nat} (h : (i = 0 ∧ own = .full) ∨ (0 < i ∧ ∃ g, own = .row g ∧ S.next ≤ g ∧ g < n)) (hn : S.next ≤ n) : S.Sub ⟨n, rowOb S own e i⟩ := ⟨hn, fun k o hk => by
  rcases h with ⟨_, rfl⟩ | ⟨_, g, rfl, h1, _⟩
  · exact hk
  · have := hS.lt hk
    show (if k = g then _ else _) = _
    rw [if_neg (by omega)]
    exact hk⟩
theorem closed_slV (l : List DVal) : (D.sl .no (l.map encV)).closed := by
  simp only [D.closed, D.all, Own.all]
  exact ⟨trivial, by rw [← encVs_map]; exact closed_encVs l⟩
theorem row_next {S : St} (hS : S.WF) {e : TypeId} {own : Own} {i n : Nat} (h : (i = 0 ∧ own = .full) ∨ (0 < i ∧ ∃ g, own = .row g ∧ S.next ≤ g ∧ g < n)) (hn : S.next ≤ n) (o1 o2 : Ob) (m : Nat) :
    ∀ k o, rowOb S (.row (n + 1)) e m k = some o → (((St.add ⟨n, rowOb S own e i⟩ o1).set n o2).grow own e m).ob k = some o := fun k o hk => by
  by_cases h1 : k = n + 1
  · subst h1
    simp only [rowOb, if_true] at hk
    rcases h with ⟨_, rfl⟩ | ⟨_, g, rfl, _, _⟩
    · rw [grow_full_ob, set_next, add_next, if_pos rfl, hk]
    · rw [grow_row_ob, set_next, add_next, if_pos rfl, hk]
  · simp only [rowOb, if_neg h1] at hk
    have h2 := hS.lt hk
    rcases h with ⟨_, rfl⟩ | ⟨_, g, rfl, h3, h4⟩
    · rw [grow_full_ob, set_next, add_next, if_neg h1, set_ob, add_ob, if_neg (by omega)]
      show (if k = n then _ else rowOb S .full e i k) = _
      rw [if_neg (by omega)]
      exact hk
    · rw [grow_row_ob, set_next, add_next, if_neg h1, if_neg (by omega), set_ob, add_ob, if_neg (by omega)]
      show (if k = n then _ else rowOb S (.row g) e i k) = _
      rw [if_neg (by omega)]
      show (if k = g then _ else _) = _
      rw [if_neg (by omega)]
      exact hk
structure LC (l : List DVal) (S : St) (f : Fm) (T : St) (i : Nat) (own : Own) : Prop where
  st : T.ob = rowOb S own 43 i
  nx : S.next ≤ T.next
  ow : (i = 0 ∧ own = .full) ∨ (0 < i ∧ ∃ g, own = .row g ∧ S.next ≤ g ∧ g < T.next)
  s1 : f 1 = .fn (.func 56) [] []
  s5 : f 5 = .sl own ((l.take i).map encV)
  s8 : f 8 = .sl .no (l.map encV)
  s9 : f 9 = .v (.int .i64 l.length)
  s10 : f 10 = .v (.int .i64 i)
  le : i ≤ l.length
def LCE (l : List DVal) (S : St) (f : Fm) (T : St) : Prop := ∃ i own, LC l S f T i own
set_option maxRecDepth 200000 in
set_option maxHeartbeats 4000000 in
theorem copyParts_d (l : List DVal) (hl : l.length ≤ 1000000) (h : ∀ p ∈ l, DPure Tryz.prog 56 [encV p] (encV p)) : DPure Tryz.prog 81 [.sl .no (l.map encV), .fn (.func 56) [] []] (.sl .no (l.map encV)) := by
  refine dpure_of_dwp mixed Tryz.func81 rfl (fun _ _ => by kernel_rfl) (rs := [.tmp 4]) rfl (by kernel_rfl) (closed_slV l) (fun S hS => ?_)
  simp only [go_sem, add_ob, set_ob]
  refine dloop_mk (LCE l S) (fun f _ => l.length - slotN (f 10)) ⟨0, .full, ⟨rfl, Nat.le_refl _, .inl ⟨rfl, rfl⟩, by simp only [go_sem, add_ob, set_ob], by simp only [go_sem, add_ob, set_ob], by simp only [go_sem, add_ob, set_ob], by simp only [go_sem, add_ob, set_ob], by simp only [go_sem, add_ob, set_ob]; rfl, by omega⟩⟩ ?_
  rintro g ⟨tn, tob⟩ ⟨i, own, q⟩
  obtain rfl : tob = rowOb S own 43 i := q.st
  have nx : S.next ≤ tn := q.nx
  by_cases hlt : i < l.length
  · have b1 : decide ((i : Int) < (l.length : Int)) = true := by simp; omega
    have hx := getD_map encV l i hlt
    have c1 : (0 : Int) ≤ (i : Int) := by omega
    have c2 : (i : Int) < (l.length : Int) := by omega
    have w1 : IntKind.i64.wrap ((i : Int) + 1) = (i : Int) + 1 := IntWalk.i64_in _ ⟨by omega, by omega⟩
    simp only [go_sem, add_ob, set_ob, q.s1, q.s5, q.s8, q.s9, q.s10, b1, hx, c1, c2]
    refine DCalls.of_pure (h l[i] (List.getElem_mem hlt)) ?_
    simp only [go_sem, add_ob, set_ob, q.s1, q.s5, q.s8, q.s9, q.s10, w1]
    refine ⟨⟨by rfl, fun d hd => by rw [List.mem_singleton] at hd; subst hd; exact ⟨okCell_encV _, cells_encV _⟩⟩, dapp_row ?_⟩
    simp only [go_sem, add_ob, set_ob, q.s1, q.s5, q.s8, q.s9, q.s10, w1]
    have hlt2 : (l.take i).length = i := by rw [List.length_take]; omega
    have hsub0 : S.Sub ⟨tn, rowOb S own 43 i⟩ := row_sub hS q.ow nx
    refine ⟨rfl, fun d hd => ?_, fun d hd => ?_, ?_, by omega, by omega, ?_⟩
    · obtain ⟨p, _, rfl⟩ := List.mem_map.1 hd; exact cells_encV _
    · rw [List.mem_singleton] at hd; subst hd; exact cells_encV _
    · rcases q.ow with ⟨rfl, rfl⟩ | ⟨h0, g', rfl, hg1, hg2⟩
      · trivial
      · have e2 : (g' : Nat) ≠ tn := by have hg : g' < tn := hg2; omega
        simp only [e2, if_false, rowOb, if_true, hlt2]
    · refine round_back (rowOb S (.row (tn + 1)) 43 (i + 1)) ?_ ⟨i + 1, .row (tn + 1), ⟨rfl, ?_, .inr ⟨by omega, _, rfl, by omega, ?_⟩, by simp only [go_sem, add_ob, set_ob, q.s1], ?_, by simp only [go_sem, add_ob, set_ob, q.s8], by simp only [go_sem, add_ob, set_ob, q.s9], by simp only [go_sem, add_ob, set_ob]; rfl, by omega⟩⟩ (by simp only [go_sem, add_ob, set_ob]; omega)
      · rw [hlt2]; exact row_next hS q.ow nx _ _ _
      · show S.next ≤ _
        simp only [grow_next, set_next, add_next]; omega
      · simp only [grow_next, set_next, add_next]; omega
      · simp only [go_sem, add_ob, set_ob]
        rw [List.take_succ_eq_append_getElem hlt, List.map_append]
        rfl
  · have b1 : decide ((i : Int) < (l.length : Int)) = false := by simp; omega
    simp only [go_sem, add_ob, set_ob, q.s1, q.s5, q.s8, q.s9, q.s10, b1]
    have hi : i = l.length := by have := q.le; omega
    exact ⟨by rw [hi, List.take_length]; simp only [D.frz, frz_mapV], row_sub hS q.ow nx⟩
theorem partsLen (v : DVal) : v.parts.length ≤ DVal.weights v.parts := by
  have : ∀ l : List DVal, l.length ≤ DVal.weights l := fun l => by
    induction l with
    | nil => exact Nat.zero_le _
    | cons p l ih => simp only [DVal.weights, List.length_cons]; have := p.weight_eq; omega
  exact this _
set_option maxRecDepth 200000 in
set_option maxHeartbeats 4000000 in
theorem copyV_d (k : Nat) : ∀ (v : DVal), v.depth ≤ k → v.weight ≤ 1000000 → DPure Tryz.prog 56 [encV v] (encV v) := by
  induction k with
  | zero => intro v h; have := v.depth_pos; omega
  | succ k ih =>
    intro v hk hw
    have hwe := v.weight_eq
    have hpl := partsLen v
    have hparts := copyParts_d v.parts (by omega) fun p hp => ih p (by have := DVal.depth_part hp; omega) (by have := DVal.weight_part hp; omega)
    refine dpure_of_dwp mixed Tryz.func56 rfl (fun _ _ => by kernel_rfl) (rs := [.cell 2 43]) rfl (by kernel_rfl) (closed_encV v) (fun S hS => ?_)
    simp only [go_sem, add_ob, set_ob, encV_eq v]
    refine ddraw_mk 7 (by kernel_rfl) ?_
    simp only [go_sem, add_ob, set_ob]
    refine ⟨⟨rfl, (fun d hd => by cases hd), (fun d hd => by obtain ⟨p, _, rfl⟩ := List.mem_map.1 hd; rfl), by omega, by omega⟩, ⟨rfl, (fun d hd => by cases hd), (fun d hd => by obtain ⟨p, _, rfl⟩ := List.mem_map.1 hd; rfl), by omega, by omega⟩, ?_⟩
    refine DCalls.of_pure hparts ?_
    simp only [go_sem, add_ob, set_ob]
    refine ⟨?_, ?_⟩
    · simp only [D.frz, frzL, frz_strs, frz_u64s, frz_mapV, strD]
    · exact ((((((St.Sub.refl S).add hS _).add hS _).set hS (Nat.le_refl _) _).set hS (Nat.le_refl _) _).set hS (Nat.le_refl _) _).set hS (by omega) _
end Go.Proofs.YtogbklnkpjjkoaaGreatDoor

namespace Go.Proofs.YtogbklnkpjjkoaaGreatDoor
open Go.RowKit
def ixN {α : Type} [DecidableEq α] (l : List α) (x : α) : Nat := l.idxOf x
def ixI {α : Type} [DecidableEq α] (l : List α) (x : α) : Int := if x ∈ l then (ixN l x : Int) else -1
theorem ix_lt {α : Type} [DecidableEq α] {l : List α} {x : α} (h : x ∈ l) : ixN l x < l.length := List.idxOf_lt_length_of_mem h
theorem idxP_ix {α : Type} [DecidableEq α] {l : List α} {x : α} {e : Ending} (h : IdxP (fun i => decide (l[i]? = some x)) l.length e) : e = .returned (.int .i64 (ixI l x)) := by
  rcases h with ⟨k, hk, rfl, h1, h2⟩ | ⟨rfl, h2⟩
  · have hx : l[k] = x := by
      have := of_decide_eq_true h1
      rw [List.getElem?_eq_getElem hk] at this
      exact Option.some.inj this
    have hm : x ∈ l := hx ▸ List.getElem_mem hk
    have hi : ixN l x = k := by
      show l.findIdx (· == x) = k
      rw [List.findIdx_eq hk]
      refine ⟨by simp [hx], fun j hj => ?_⟩
      have := of_decide_eq_false (h2 j hj)
      rw [List.getElem?_eq_getElem (by omega)] at this
      simp only [beq_eq_false_iff_ne, ne_eq]
      exact fun e => this (by rw [e])
    rw [ixI, if_pos hm, hi]
  · have hm : ¬ x ∈ l := fun hm => by
      obtain ⟨j, hj, e⟩ := List.getElem_of_mem hm
      have := of_decide_eq_false (h2 j hj)
      rw [List.getElem?_eq_getElem hj, e] at this
      exact this rfl
    rw [ixI, if_neg hm]
theorem strIndex_d (own : Own) (l : List Str) (x : Str) (hn : l.length ≤ 140737488351232) : DPure Tryz.prog 105 [.sl own (l.map strD), .v (sv x)] (.v (.int .i64 (ixI l x))) :=
  dpure_of_gives (fun _ _ => by kernel_rfl) fun w η X vs hr => by
    simp only [RepL] at hr
    obtain ⟨y, ys, rfl, h1, z, zs, rfl, h2, rfl⟩ := hr
    obtain ⟨A, c, rfl, hc, hf⟩ := strArg h1
    simp only [Rep] at h2
    subst h2
    exact (strIndex_calls l x A c w hf hn).mono fun e w' ⟨he, hw⟩ => ⟨idxP_ix he, hw ▸ Below.refl _ _⟩
theorem pfin_cell_tmp_ret {P : Program} {S : St} {f : Fm} (x : Tmp) (t : TypeId) (u : Tmp) (S' : St) (d : D) : DQ.pfin P [.cell x t, .tmp u] S d .ret f S' = dcellR P S' t (f x) (fun r => PFin S S' (.tup [r, f u]) d) := by
  rw [← onVal_cell]
  simp [DQ.pfin, dresL, dres, onVal, one]
attribute [go_sem] pfin_cell_tmp_ret
abbrev DStp := Str × Nat
end Go.Proofs.YtogbklnkpjjkoaaGreatDoor

namespace Go.Proofs.YtogbklnkpjjkoaaGreatDoor
open Go.RowKit
theorem fin_cell_ret {P : Program} {S : St} {f : Fm} {K : D → St → Prop} (x : Tmp) (t : TypeId) (S' : St) : DQ.fin P [.cell x t] S K .ret f S' = dcellR P S' t (f x) (fun r => DFinT P S S' r K) := onVal_cell x t _
attribute [go_sem] fin_cell_ret
end Go.Proofs.YtogbklnkpjjkoaaGreatDoor

namespace Go.Proofs.YtogbklnkpjjkoaaGreatDoor
open Go.RowKit
theorem fin_pure {S T : St} (hS : S.WF) {d : D} (hc : d.closed) (hs : S.Sub T) : DFin S T d (fun d' T' => d' = d ∧ T' = S) :=
  ⟨d, S, DLe.refl _, D.all_mono (fun _ h => h.elim) hc, hs.next, Nat.le_refl _, fun k o hk => ⟨hs.ob k o hk, hS.lt hk, fun _ _ _ => .inl hk⟩, rfl, rfl⟩
end Go.Proofs.YtogbklnkpjjkoaaGreatDoor

namespace Go.Proofs.YtogbklnkpjjkoaaGreatDoor
open Go.RowKit
theorem strContains_d (own : Own) (l : List Str) (x : Str) (hn : l.length ≤ 140737488351232) : DPure Tryz.prog 152 [.sl own (l.map strD), .v (sv x)] (.v (.bool (decide (x ∈ l)))) :=
  dpure_of_gives (fun _ _ => by kernel_rfl) fun w η X vs hr => by
    simp only [RepL] at hr
    obtain ⟨y, ys, rfl, h1, z, zs, rfl, h2, rfl⟩ := hr
    obtain ⟨A, c, rfl, hc, hf⟩ := strArg h1
    simp only [Rep] at h2
    subst h2
    exact (strContains_calls l x A c w hf hn).mono fun e w' ⟨he, hw⟩ => ⟨he, hw ▸ Below.refl _ _⟩
theorem strEqual_d (own own2 : Own) (l m : List Str) (hn : l.length ≤ 140737488351232) (hm : m.length ≤ 140737488351232) : DPure Tryz.prog 141 [.sl own (l.map strD), .sl own2 (m.map strD)] (.v (.bool (decide (l = m)))) :=
  dpure_of_gives (fun _ _ => by kernel_rfl) fun w η X vs hr => by
    simp only [RepL] at hr
    obtain ⟨y, ys, rfl, h1, z, zs, rfl, h2, rfl⟩ := hr
    obtain ⟨A, c, rfl, hc, hf⟩ := strArg h1
    obtain ⟨A2, c2, rfl, hc2, hf2⟩ := strArg h2
    exact strEqual_calls l m A A2 c c2 w hf hf2 hn hm
def fitsSt (v : DVal) (s : DSch) (S : St) : St := (S.add (.box 43 [.v (.int .i64 v.kind), .v (.int .i64 v.n), strD v.s, .sl .no (v.names.map strD), .sl .no (v.ids.map u64D), .sl .no (v.parts.map encV)])).add (.box 25 [.v (.int .i64 s.kind), .sl .no (s.words.map strD), .sl .no (s.parts.map encS)])
theorem fits_sub {S : St} (hS : S.WF) (v : DVal) (s : DSch) {n : Nat} (hn : S.next + 2 ≤ n) : S.Sub ⟨n, (fitsSt v s S).ob⟩ :=
  ⟨by show S.next ≤ n; omega, (((St.Sub.refl S).add hS _).add hS _).ob⟩
theorem fits_back {S : St} (hS : S.WF) (v : DVal) (s : DSch) {n : Nat} (hn : S.next + 2 ≤ n) (o o2 : Ob) : ∀ k o', (fitsSt v s S).ob k = some o' → ((St.add ⟨n, (fitsSt v s S).ob⟩ o).set n o2).ob k = some o' := fun k o' h => by
  have hk : k ≠ n := fun e => by
    subst e
    simp only [fitsSt, add_ob, add_next] at h
    rw [if_neg (by omega), if_neg (by omega), hS k (by omega)] at h
    cases h
  simp only [set_ob, add_ob]
  rw [if_neg hk, if_neg hk]
  exact h
structure FCut (v : DVal) (s : DSch) (S : St) (f : Fm) (T : St) : Prop where
  st : T = fitsSt v s S
  s2 : f 2 = .loc S.next 0
  s3 : f 3 = .loc (S.next + 1) 0
  s38 : f 38 = .v (.bool (!headF v s))
structure LF (k : Nat) (v : DVal) (s : DSch) (S : St) (f : Fm) (T : St) (i : Nat) : Prop where
  st : T.ob = (fitsSt v s S).ob
  nx : S.next + 2 ≤ T.next
  s2 : f 2 = .loc S.next 0
  s3 : f 3 = .loc (S.next + 1) 0
  s40 : f 40 = .sl .no (v.parts.map encV)
  s41 : f 41 = .v (.int .i64 v.parts.length)
  s42 : f 42 = .v (.int .i64 i)
  le : i ≤ v.parts.length
  ok : ∀ j, j < i → fitsV k (v.parts.getD j default) (s.parts.getD (atF s j) default) = true
def LFE (k : Nat) (v : DVal) (s : DSch) (S : St) (f : Fm) (T : St) : Prop := ∃ i, LF k v s S f T i
set_option maxRecDepth 200000 in
set_option maxHeartbeats 8000000 in
theorem fits_d (k : Nat) : ∀ (v : DVal) (s : DSch), v.depth ≤ k → okV v → okS s → RV v → RS s → DPure Tryz.prog 144 [encV v, encS s] (.v (.bool (fitsV k v s))) := by
  induction k with
  | zero => intro v s h; have := v.depth_pos; omega
  | succ k ih =>
    intro v s hk hov hos hv hs
    obtain ⟨o1, o2, o3, o4, o5, o6, o7, o8, o9⟩ := (okV_eq v).1 hov
    obtain ⟨p1, p2, p3, p4, p5⟩ := (okS_eq s).1 hos
    refine dpure_of_dwp mixed Tryz.func144 rfl (fun _ _ => by kernel_rfl) (rs := [.tmp 4]) rfl (by kernel_rfl) trivial (fun S hS => ?_)
    simp only [go_sem, add_ob, set_ob, encV_eq v, encS_eq s]
    refine cut_guard (FCut v s S) rfl ?_ ?_
    · intro f T h
      obtain rfl := h.st
      cases hh : headF v s with
      | false =>
        simp only [go_sem, add_ob, set_ob, h.s38, hh]
        exact ⟨by rw [fitsV, hh]; rfl, ((St.Sub.refl S).add hS _).add hS _⟩
      | true =>
        simp only [go_sem, add_ob, set_ob, h.s38, hh, h.s2, h.s3, fitsSt]
        refine dloop_mk (LFE k v s S) (fun f _ => v.parts.length - slotN (f 42)) ⟨0, ⟨rfl, Nat.le_refl _, by simp only [go_sem, add_ob, set_ob, h.s2], by simp only [go_sem, add_ob, set_ob, h.s3], by simp only [go_sem, add_ob, set_ob], by simp only [go_sem, add_ob, set_ob], by simp only [go_sem, add_ob, set_ob]; rfl, by omega, fun j hj => by omega⟩⟩ ?_
        rintro g ⟨tn, tob⟩ ⟨i, q⟩
        obtain rfl : tob = (fitsSt v s S).ob := q.st
        have nx : S.next + 2 ≤ tn := q.nx
        have e1 : (S.next = tn) = False := eq_false (by omega)
        have e2 : (S.next + 1 = tn) = False := eq_false (by omega)
        have e3 : (tn = S.next) = False := eq_false (by omega)
        have e4 : (tn = S.next + 1) = False := eq_false (by omega)
        by_cases hlt : i < v.parts.length
        · have b1 : decide ((i : Int) < (v.parts.length : Int)) = true := by simp; omega
          have hx := getD_map encV v.parts i hlt
          have c1 : (0 : Int) ≤ (i : Int) := by omega
          have c2 : (i : Int) < (v.parts.length : Int) := by omega
          have w1 : IntKind.i64.wrap ((i : Int) + 1) = (i : Int) + 1 := IntWalk.i64_in _ ⟨by omega, by omega⟩
          have hat := atF_lt hv hs hh hlt
          have hy := getD_map encS s.parts (atF s i) hat
          have c3 : (0 : Int) ≤ (atF s i : Int) := by omega
          have c4 : (atF s i : Int) < (s.parts.length : Int) := by omega
          have hd := DVal.depth_part (List.getElem_mem hlt)
          have hfit : fitsV k (v.parts.getD i default) (s.parts.getD (atF s i) default) = fitsV k v.parts[i] s.parts[atF s i] := by rw [getD_at hlt, getD_at hat]
          have hcall := ih v.parts[i] s.parts[atF s i] (by omega) (o9 _ (List.getElem_mem hlt)) (p5 _ (List.getElem_mem hat)) (hv.part (List.getElem_mem hlt)) (hs.part (List.getElem_mem hat))
          have hsub := fits_sub hS v s nx
          have hback := fits_back hS v s nx
          have next : fitsV k v.parts[i] s.parts[atF s i] = true → ∀ j, j < i + 1 → fitsV k (v.parts.getD j default) (s.parts.getD (atF s j) default) = true := fun hh j hj => by
            by_cases e : j = i
            · rw [e, hfit]; exact hh
            · exact q.ok j (by omega)
          have bad : fitsV k v.parts[i] s.parts[atF s i] = false → fitsV (k + 1) v s = false := fun hb => by
            simp only [fitsV]
            rw [all_not (p := fun i => fitsV k (v.parts.getD i default) (s.parts.getD (atF s i) default)) hlt (by rw [hfit]; exact hb), Bool.and_false]
          by_cases h6 : s.kind = 6
          · have b6 : (s.kind == 6) = true := by simp [h6]
            have ha : atF s i = 0 := by unfold atF; rw [if_pos h6]
            simp only [go_sem, add_ob, set_ob, q.s2, q.s3, q.s40, q.s41, q.s42, b1, hx, c1, c2, fitsSt, e1, e2, e3, e4, b6]
            have hy0 : (s.parts.map encS).getD 0 undefD = encS s.parts[atF s i] := by rw [← hy, ha]
            have c5 : (0 : Int) < (s.parts.length : Int) := by omega
            have c6 : (0 : Int) ≤ 0 := Int.le_refl _
            refine ddraw_mk 8 (by kernel_rfl) ?_
            simp only [go_sem, add_ob, set_ob, q.s3, e1, e2, e3, e4, hy0, c5, c6, Int.toNat_zero]
            refine dqgo_mk hcall ?_
            cases hf : fitsV k v.parts[i] s.parts[atF s i] with
            | false =>
              simp only [go_sem, add_ob, set_ob, hf]
              exact ⟨by rw [bad hf]; rfl, (hsub.add hS _).set hS (by omega) _⟩
            | true =>
              simp only [go_sem, add_ob, set_ob, hf, q.s42, w1]
              exact round_back (fitsSt v s S).ob (hback _ _) ⟨i + 1, ⟨rfl, Nat.le_succ_of_le nx, by simp only [go_sem, add_ob, set_ob, q.s2], by simp only [go_sem, add_ob, set_ob, q.s3], by simp only [go_sem, add_ob, set_ob, q.s40], by simp only [go_sem, add_ob, set_ob, q.s41], by simp only [go_sem, add_ob, set_ob]; rfl, by omega, next hf⟩⟩ (by simp only [go_sem, add_ob, set_ob]; omega)
          · have b6 : (s.kind == 6) = false := by simp [h6]
            have ha : atF s i = i := by unfold atF; rw [if_neg h6]
            have hy0 : (s.parts.map encS).getD i undefD = encS s.parts[atF s i] := by rw [← hy, ha]
            have c5 : (i : Int) < (s.parts.length : Int) := by omega
            simp only [go_sem, add_ob, set_ob, q.s2, q.s3, q.s40, q.s41, q.s42, b1, hx, c1, c2, fitsSt, e1, e2, e3, e4, b6]
            refine ddraw_mk 8 (by kernel_rfl) ?_
            simp only [go_sem, add_ob, set_ob, q.s3, e1, e2, e3, e4, hy0, c1, c5]
            refine dqgo_mk hcall ?_
            cases hf : fitsV k v.parts[i] s.parts[atF s i] with
            | false =>
              simp only [go_sem, add_ob, set_ob, hf]
              exact ⟨by rw [bad hf]; rfl, (hsub.add hS _).set hS (by omega) _⟩
            | true =>
              simp only [go_sem, add_ob, set_ob, hf, q.s42, w1]
              exact round_back (fitsSt v s S).ob (hback _ _) ⟨i + 1, ⟨rfl, Nat.le_succ_of_le nx, by simp only [go_sem, add_ob, set_ob, q.s2], by simp only [go_sem, add_ob, set_ob, q.s3], by simp only [go_sem, add_ob, set_ob, q.s40], by simp only [go_sem, add_ob, set_ob, q.s41], by simp only [go_sem, add_ob, set_ob]; rfl, by omega, next hf⟩⟩ (by simp only [go_sem, add_ob, set_ob]; omega)
        · have b1 : decide ((i : Int) < (v.parts.length : Int)) = false := by simp; omega
          simp only [go_sem, add_ob, set_ob, q.s2, q.s3, q.s40, q.s41, q.s42, b1]
          refine ⟨?_, fits_sub hS v s nx⟩
          rw [show fitsV (k + 1) v s = true by
            simp only [fitsV, hh, Bool.true_and]
            exact all_of fun j hj => q.ok j (by omega)]
          rfl
    · have hbad : headF v s = (decide (v.kind = s.kind) && ((!decide (v.kind = 4) || decide (v.s ∈ s.words)) && (!decide (v.kind = 5) || decide (v.names = s.words)))) := rfl
      by_cases hk1 : v.kind = s.kind
      · have b1 : (v.kind != s.kind) = false := by simp [hk1]
        by_cases hk4 : v.kind = 4
        · have b4 : (v.kind == 4) = true := by simp [hk4]
          have b5 : (v.kind == 5) = false := by simp [hk4]
          simp only [go_sem, add_ob, set_ob, b1, b4, b5]
          refine DCalls.of_pure (strContains_d .no s.words v.s p3) ?_
          have hb2 : headF v s = decide (v.s ∈ s.words) := by rw [hbad, decide_eq_true hk1, decide_eq_true hk4, decide_eq_false (show ¬ v.kind = 5 by omega)]; simp
          cases hm : decide (v.s ∈ s.words) with
          | false => simp only [go_sem, add_ob, set_ob, b5]; exact ⟨rfl, by simp only [go_sem, add_ob, set_ob], by simp only [go_sem, add_ob, set_ob], by simp only [go_sem, add_ob, set_ob, hb2, hm]⟩
          | true => simp only [go_sem, add_ob, set_ob, b5]; exact ⟨rfl, by simp only [go_sem, add_ob, set_ob], by simp only [go_sem, add_ob, set_ob], by simp only [go_sem, add_ob, set_ob, hb2, hm]⟩
        · have b4 : (v.kind == 4) = false := by simp [hk4]
          by_cases hk5 : v.kind = 5
          · have b5 : (v.kind == 5) = true := by simp [hk5]
            simp only [go_sem, add_ob, set_ob, b1, b4, b5]
            refine DCalls.of_pure (strEqual_d .no .no v.names s.words o5 p3) ?_
            have hb2 : headF v s = decide (v.names = s.words) := by rw [hbad, decide_eq_true hk1, decide_eq_false hk4, decide_eq_true hk5]; simp
            cases hm : decide (v.names = s.words) with
            | false => simp only [go_sem, add_ob, set_ob]; exact ⟨rfl, by simp only [go_sem, add_ob, set_ob], by simp only [go_sem, add_ob, set_ob], by simp only [go_sem, add_ob, set_ob, hb2, hm]⟩
            | true => simp only [go_sem, add_ob, set_ob]; exact ⟨rfl, by simp only [go_sem, add_ob, set_ob], by simp only [go_sem, add_ob, set_ob], by simp only [go_sem, add_ob, set_ob, hb2, hm]⟩
          · have b5 : (v.kind == 5) = false := by simp [hk5]
            have hb2 : headF v s = true := by rw [hbad, decide_eq_true hk1, decide_eq_false hk4, decide_eq_false hk5]; simp
            simp only [go_sem, add_ob, set_ob, b1, b4, b5]
            exact ⟨rfl, by simp only [go_sem, add_ob, set_ob], by simp only [go_sem, add_ob, set_ob], by simp only [go_sem, add_ob, set_ob, hb2]⟩
      · have b1 : (v.kind != s.kind) = true := by simp [hk1]
        have hb2 : headF v s = false := by rw [hbad, decide_eq_false hk1]; rfl
        simp only [go_sem, add_ob, set_ob, b1]
        exact ⟨rfl, by simp only [go_sem, add_ob, set_ob], by simp only [go_sem, add_ob, set_ob], by simp only [go_sem, add_ob, set_ob, hb2]⟩
end Go.Proofs.YtogbklnkpjjkoaaGreatDoor

namespace Go.Proofs.YtogbklnkpjjkoaaGreatDoor
open Go.RowKit
theorem RS.of_right {v : DSch} (h : rightS 5 v = true) : soundS v.depth v = true := by
  have := right_sound 5 v v.depth (Nat.le_refl _)
  rw [h] at this
  exact (Bool.and_eq_true _ _ ▸ this.symm).2
def fitsTop (v : DVal) (s : DSch) : Bool := rightV 5 v && (rightS 5 s && fitsV v.depth v s)
end Go.Proofs.YtogbklnkpjjkoaaGreatDoor

namespace Go.Proofs.YtogbklnkpjjkoaaGreatDoor
open Go.RowKit
theorem greatS_d (v : DSch) (hok : okS v) : DPure Tryz.prog 8 [encS v] (.v (.bool (decide (roomS 12 v 300 < 0)))) := dpure_sch hok (fun _ _ => by kernel_rfl) fun w cs h => greatS_calls v cs w h
theorem schRight_d (v : DSch) (hok : okS v) : DPure Tryz.prog 47 [encS v] (.v (.bool (rightS 5 v))) := dpure_sch hok (fun _ _ => by kernel_rfl) fun w cs h => schRightP_calls v cs w h
set_option maxRecDepth 200000 in
set_option maxHeartbeats 4000000 in
theorem fitsTop_d (v : DVal) (s : DSch) (hov : okV v) (hos : okS s) : DPure Tryz.prog 110 [encV v, encS s] (.v (.bool (fitsTop v s))) := by
  refine dpure_of_dwp mixed Tryz.func110 rfl (fun _ _ => by kernel_rfl) (rs := [.tmp 4]) rfl (by kernel_rfl) trivial (fun S hS => ?_)
  have hsub := fun o o2 => ((St.Sub.refl S).add hS o).add hS o2
  simp only [go_sem, add_ob, set_ob]
  refine DCalls.of_pure (valRight_d v hov) ?_
  cases h1 : rightV 5 v with
  | false =>
    simp only [go_sem, add_ob, set_ob]
    exact ⟨by rw [fitsTop, h1]; rfl, hsub _ _⟩
  | true =>
    simp only [go_sem, add_ob, set_ob]
    refine DCalls.of_pure (schRight_d s hos) ?_
    cases h2 : rightS 5 s with
    | false =>
      simp only [go_sem, add_ob, set_ob]
      exact ⟨by rw [fitsTop, h1, h2]; rfl, hsub _ _⟩
    | true =>
      simp only [go_sem, add_ob, set_ob]
      refine DCalls.of_pure (fits_d v.depth v s (Nat.le_refl _) hov hos (RV.of_right h1) ⟨_, Nat.le_refl _, RS.of_right h2⟩) ?_
      simp only [go_sem, add_ob, set_ob]
      exact ⟨by rw [fitsTop, h1, h2]; rfl, hsub _ _⟩
end Go.Proofs.YtogbklnkpjjkoaaGreatDoor
