/- Texts of a proof, part 5. Conditions: none. -/
import Derived.Test.YtjjhjhjphhpeiaaGreatDoorO4
import Derived.Test.YtjjhjhjphhpeiaaGreatDoorProg
import Derived.KernelRfl
set_option linter.unusedVariables false
set_option linter.unusedSimpArgs false
namespace Go.Proofs.YtjjhjhjphhpeiaaGreatDoor

@[go_sem] theorem okT_1 : okT Tryz.prog 1 = true := by kernel_rfl
@[go_sem] theorem szOf_1 : szOf Tryz.prog 1 = 1 := by kernel_rfl
@[go_sem] theorem aggT_1 : aggT Tryz.prog 1 = false := by kernel_rfl
@[go_sem] theorem undS_1 : (Tryz.prog.underlying 1).isSome = true := by kernel_rfl
@[go_sem] theorem infS_1 : (Tryz.prog.info? 1).isSome = true := by kernel_rfl
@[go_sem] theorem ifaceT_1 : ifaceT Tryz.prog 1 = false := by kernel_rfl
@[go_sem] theorem ptrT_1 : ptrT Tryz.prog 1 = false := by kernel_rfl
@[go_sem] theorem zeroT_1 : zeroT Tryz.prog 1 = true := by kernel_rfl
@[go_sem] theorem zeroOk_1 : zeroOk Tryz.prog 1 = true := by kernel_rfl
@[go_sem] theorem bytesOf_1 : bytesOf Tryz.prog 1 = 8 := by kernel_rfl
@[go_sem] theorem zeroD_1 : zeroD Tryz.prog 1 = [.v .nilFunc] := by kernel_rfl
@[go_sem] theorem okT_2 : okT Tryz.prog 2 = true := by kernel_rfl
@[go_sem] theorem szOf_2 : szOf Tryz.prog 2 = 1 := by kernel_rfl
@[go_sem] theorem aggT_2 : aggT Tryz.prog 2 = false := by kernel_rfl
@[go_sem] theorem undS_2 : (Tryz.prog.underlying 2).isSome = true := by kernel_rfl
@[go_sem] theorem infS_2 : (Tryz.prog.info? 2).isSome = true := by kernel_rfl
@[go_sem] theorem ifaceT_2 : ifaceT Tryz.prog 2 = false := by kernel_rfl
@[go_sem] theorem ptrT_2 : ptrT Tryz.prog 2 = false := by kernel_rfl
@[go_sem] theorem zeroT_2 : zeroT Tryz.prog 2 = true := by kernel_rfl
@[go_sem] theorem zeroOk_2 : zeroOk Tryz.prog 2 = true := by kernel_rfl
@[go_sem] theorem bytesOf_2 : bytesOf Tryz.prog 2 = 8 := by kernel_rfl
@[go_sem] theorem zeroD_2 : zeroD Tryz.prog 2 = [.v (.int .i64 0)] := by kernel_rfl
@[go_sem] theorem okT_3 : okT Tryz.prog 3 = true := by kernel_rfl
@[go_sem] theorem szOf_3 : szOf Tryz.prog 3 = 1 := by kernel_rfl
@[go_sem] theorem aggT_3 : aggT Tryz.prog 3 = false := by kernel_rfl
@[go_sem] theorem undS_3 : (Tryz.prog.underlying 3).isSome = true := by kernel_rfl
@[go_sem] theorem infS_3 : (Tryz.prog.info? 3).isSome = true := by kernel_rfl
@[go_sem] theorem ifaceT_3 : ifaceT Tryz.prog 3 = false := by kernel_rfl
@[go_sem] theorem ptrT_3 : ptrT Tryz.prog 3 = false := by kernel_rfl
@[go_sem] theorem zeroT_3 : zeroT Tryz.prog 3 = true := by kernel_rfl
@[go_sem] theorem zeroOk_3 : zeroOk Tryz.prog 3 = true := by kernel_rfl
@[go_sem] theorem bytesOf_3 : bytesOf Tryz.prog 3 = 8 := by kernel_rfl
@[go_sem] theorem zeroD_3 : zeroD Tryz.prog 3 = [.v (.int .i64 0)] := by kernel_rfl
@[go_sem] theorem okT_4 : okT Tryz.prog 4 = true := by kernel_rfl
@[go_sem] theorem szOf_4 : szOf Tryz.prog 4 = 1 := by kernel_rfl
@[go_sem] theorem aggT_4 : aggT Tryz.prog 4 = false := by kernel_rfl
@[go_sem] theorem undS_4 : (Tryz.prog.underlying 4).isSome = true := by kernel_rfl
@[go_sem] theorem infS_4 : (Tryz.prog.info? 4).isSome = true := by kernel_rfl
@[go_sem] theorem ifaceT_4 : ifaceT Tryz.prog 4 = false := by kernel_rfl
@[go_sem] theorem ptrT_4 : ptrT Tryz.prog 4 = false := by kernel_rfl
@[go_sem] theorem zeroT_4 : zeroT Tryz.prog 4 = true := by kernel_rfl
@[go_sem] theorem zeroOk_4 : zeroOk Tryz.prog 4 = true := by kernel_rfl
@[go_sem] theorem bytesOf_4 : bytesOf Tryz.prog 4 = 1 := by kernel_rfl
@[go_sem] theorem zeroD_4 : zeroD Tryz.prog 4 = [.v (.bool false)] := by kernel_rfl
@[go_sem] theorem okT_5 : okT Tryz.prog 5 = true := by kernel_rfl
@[go_sem] theorem szOf_5 : szOf Tryz.prog 5 = 1 := by kernel_rfl
@[go_sem] theorem aggT_5 : aggT Tryz.prog 5 = false := by kernel_rfl
@[go_sem] theorem undS_5 : (Tryz.prog.underlying 5).isSome = true := by kernel_rfl
@[go_sem] theorem infS_5 : (Tryz.prog.info? 5).isSome = true := by kernel_rfl
@[go_sem] theorem ifaceT_5 : ifaceT Tryz.prog 5 = false := by kernel_rfl
@[go_sem] theorem ptrT_5 : ptrT Tryz.prog 5 = false := by kernel_rfl
@[go_sem] theorem zeroT_5 : zeroT Tryz.prog 5 = true := by kernel_rfl
@[go_sem] theorem zeroOk_5 : zeroOk Tryz.prog 5 = true := by kernel_rfl
@[go_sem] theorem bytesOf_5 : bytesOf Tryz.prog 5 = 1 := by kernel_rfl
@[go_sem] theorem zeroD_5 : zeroD Tryz.prog 5 = [.v (.int .u8 0)] := by kernel_rfl
@[go_sem] theorem okT_6 : okT Tryz.prog 6 = true := by kernel_rfl
@[go_sem] theorem szOf_6 : szOf Tryz.prog 6 = 1 := by kernel_rfl
@[go_sem] theorem aggT_6 : aggT Tryz.prog 6 = false := by kernel_rfl
@[go_sem] theorem undS_6 : (Tryz.prog.underlying 6).isSome = true := by kernel_rfl
@[go_sem] theorem infS_6 : (Tryz.prog.info? 6).isSome = true := by kernel_rfl
@[go_sem] theorem ifaceT_6 : ifaceT Tryz.prog 6 = false := by kernel_rfl
@[go_sem] theorem ptrT_6 : ptrT Tryz.prog 6 = false := by kernel_rfl
@[go_sem] theorem zeroT_6 : zeroT Tryz.prog 6 = true := by kernel_rfl
@[go_sem] theorem zeroOk_6 : zeroOk Tryz.prog 6 = true := by kernel_rfl
@[go_sem] theorem bytesOf_6 : bytesOf Tryz.prog 6 = 1 := by kernel_rfl
@[go_sem] theorem zeroD_6 : zeroD Tryz.prog 6 = [.v (.int .u8 0)] := by kernel_rfl
@[go_sem] theorem okT_7 : okT Tryz.prog 7 = true := by kernel_rfl
@[go_sem] theorem szOf_7 : szOf Tryz.prog 7 = 4 := by kernel_rfl
@[go_sem] theorem aggT_7 : aggT Tryz.prog 7 = true := by kernel_rfl
@[go_sem] theorem undS_7 : (Tryz.prog.underlying 7).isSome = true := by kernel_rfl
@[go_sem] theorem infS_7 : (Tryz.prog.info? 7).isSome = true := by kernel_rfl
@[go_sem] theorem ifaceT_7 : ifaceT Tryz.prog 7 = false := by kernel_rfl
@[go_sem] theorem ptrT_7 : ptrT Tryz.prog 7 = false := by kernel_rfl
@[go_sem] theorem zeroT_7 : zeroT Tryz.prog 7 = true := by kernel_rfl
@[go_sem] theorem zeroOk_7 : zeroOk Tryz.prog 7 = true := by kernel_rfl
@[go_sem] theorem bytesOf_7 : bytesOf Tryz.prog 7 = 24 := by kernel_rfl
@[go_sem] theorem zeroD_7 : zeroD Tryz.prog 7 = [.v (.int .i64 0), .v (.int .i64 0), .v (.bool false), .v (.int .u8 0)] := by kernel_rfl
@[go_sem] theorem fld_7_0 : fld Tryz.prog 7 0 = some (0, 2) := by kernel_rfl
@[go_sem] theorem fld_7_1 : fld Tryz.prog 7 1 = some (1, 3) := by kernel_rfl
@[go_sem] theorem fld_7_2 : fld Tryz.prog 7 2 = some (2, 4) := by kernel_rfl
@[go_sem] theorem fld_7_3 : fld Tryz.prog 7 3 = some (3, 6) := by kernel_rfl
@[go_sem] theorem okT_8 : okT Tryz.prog 8 = true := by kernel_rfl
@[go_sem] theorem szOf_8 : szOf Tryz.prog 8 = 4 := by kernel_rfl
@[go_sem] theorem aggT_8 : aggT Tryz.prog 8 = true := by kernel_rfl
@[go_sem] theorem undS_8 : (Tryz.prog.underlying 8).isSome = true := by kernel_rfl
@[go_sem] theorem infS_8 : (Tryz.prog.info? 8).isSome = true := by kernel_rfl
@[go_sem] theorem ifaceT_8 : ifaceT Tryz.prog 8 = false := by kernel_rfl
@[go_sem] theorem ptrT_8 : ptrT Tryz.prog 8 = false := by kernel_rfl
@[go_sem] theorem zeroT_8 : zeroT Tryz.prog 8 = true := by kernel_rfl
@[go_sem] theorem zeroOk_8 : zeroOk Tryz.prog 8 = true := by kernel_rfl
@[go_sem] theorem bytesOf_8 : bytesOf Tryz.prog 8 = 24 := by kernel_rfl
@[go_sem] theorem zeroD_8 : zeroD Tryz.prog 8 = [.v (.int .i64 0), .v (.int .i64 0), .v (.bool false), .v (.int .u8 0)] := by kernel_rfl
@[go_sem] theorem fld_8_0 : fld Tryz.prog 8 0 = some (0, 2) := by kernel_rfl
@[go_sem] theorem fld_8_1 : fld Tryz.prog 8 1 = some (1, 3) := by kernel_rfl
@[go_sem] theorem fld_8_2 : fld Tryz.prog 8 2 = some (2, 4) := by kernel_rfl
@[go_sem] theorem fld_8_3 : fld Tryz.prog 8 3 = some (3, 6) := by kernel_rfl
@[go_sem] theorem okT_9 : okT Tryz.prog 9 = true := by kernel_rfl
@[go_sem] theorem szOf_9 : szOf Tryz.prog 9 = 1 := by kernel_rfl
@[go_sem] theorem aggT_9 : aggT Tryz.prog 9 = false := by kernel_rfl
@[go_sem] theorem undS_9 : (Tryz.prog.underlying 9).isSome = true := by kernel_rfl
@[go_sem] theorem infS_9 : (Tryz.prog.info? 9).isSome = true := by kernel_rfl
@[go_sem] theorem ifaceT_9 : ifaceT Tryz.prog 9 = false := by kernel_rfl
@[go_sem] theorem ptrT_9 : ptrT Tryz.prog 9 = false := by kernel_rfl
@[go_sem] theorem zeroT_9 : zeroT Tryz.prog 9 = true := by kernel_rfl
@[go_sem] theorem zeroOk_9 : zeroOk Tryz.prog 9 = true := by kernel_rfl
@[go_sem] theorem bytesOf_9 : bytesOf Tryz.prog 9 = 16 := by kernel_rfl
@[go_sem] theorem zeroD_9 : zeroD Tryz.prog 9 = [.v (.string ⟨#[]⟩)] := by kernel_rfl
@[go_sem] theorem strT_9 : strT Tryz.prog 9 = true := by kernel_rfl
@[go_sem] theorem bul_9 (s : ByteArray) (ty : TypeId) (cs : Array Bool) : dbuiltin Tryz.prog .len #[9] ty cs [.v (.string s)] = some (True, .v (.int .i64 s.size)) := bu_slen s _ ty cs strT_9
@[go_sem] theorem okT_10 : okT Tryz.prog 10 = true := by kernel_rfl
@[go_sem] theorem szOf_10 : szOf Tryz.prog 10 = 1 := by kernel_rfl
@[go_sem] theorem aggT_10 : aggT Tryz.prog 10 = false := by kernel_rfl
@[go_sem] theorem undS_10 : (Tryz.prog.underlying 10).isSome = true := by kernel_rfl
@[go_sem] theorem infS_10 : (Tryz.prog.info? 10).isSome = true := by kernel_rfl
@[go_sem] theorem ifaceT_10 : ifaceT Tryz.prog 10 = false := by kernel_rfl
@[go_sem] theorem ptrT_10 : ptrT Tryz.prog 10 = false := by kernel_rfl
@[go_sem] theorem zeroT_10 : zeroT Tryz.prog 10 = true := by kernel_rfl
@[go_sem] theorem zeroOk_10 : zeroOk Tryz.prog 10 = true := by kernel_rfl
@[go_sem] theorem bytesOf_10 : bytesOf Tryz.prog 10 = 16 := by kernel_rfl
@[go_sem] theorem zeroD_10 : zeroD Tryz.prog 10 = [.v (.string ⟨#[]⟩)] := by kernel_rfl
@[go_sem] theorem strT_10 : strT Tryz.prog 10 = true := by kernel_rfl
@[go_sem] theorem bul_10 (s : ByteArray) (ty : TypeId) (cs : Array Bool) : dbuiltin Tryz.prog .len #[10] ty cs [.v (.string s)] = some (True, .v (.int .i64 s.size)) := bu_slen s _ ty cs strT_10
@[go_sem] theorem okT_11 : okT Tryz.prog 11 = true := by kernel_rfl
@[go_sem] theorem szOf_11 : szOf Tryz.prog 11 = 1 := by kernel_rfl
@[go_sem] theorem aggT_11 : aggT Tryz.prog 11 = false := by kernel_rfl
@[go_sem] theorem undS_11 : (Tryz.prog.underlying 11).isSome = true := by kernel_rfl
@[go_sem] theorem infS_11 : (Tryz.prog.info? 11).isSome = true := by kernel_rfl
@[go_sem] theorem ifaceT_11 : ifaceT Tryz.prog 11 = false := by kernel_rfl
@[go_sem] theorem ptrT_11 : ptrT Tryz.prog 11 = false := by kernel_rfl
@[go_sem] theorem zeroT_11 : zeroT Tryz.prog 11 = true := by kernel_rfl
@[go_sem] theorem zeroOk_11 : zeroOk Tryz.prog 11 = true := by kernel_rfl
@[go_sem] theorem bytesOf_11 : bytesOf Tryz.prog 11 = 16 := by kernel_rfl
@[go_sem] theorem zeroD_11 : zeroD Tryz.prog 11 = [.v (.string ⟨#[]⟩)] := by kernel_rfl
@[go_sem] theorem strT_11 : strT Tryz.prog 11 = true := by kernel_rfl
@[go_sem] theorem bul_11 (s : ByteArray) (ty : TypeId) (cs : Array Bool) : dbuiltin Tryz.prog .len #[11] ty cs [.v (.string s)] = some (True, .v (.int .i64 s.size)) := bu_slen s _ ty cs strT_11
@[go_sem] theorem okT_12 : okT Tryz.prog 12 = true := by kernel_rfl
@[go_sem] theorem szOf_12 : szOf Tryz.prog 12 = 1 := by kernel_rfl
@[go_sem] theorem aggT_12 : aggT Tryz.prog 12 = false := by kernel_rfl
@[go_sem] theorem undS_12 : (Tryz.prog.underlying 12).isSome = true := by kernel_rfl
@[go_sem] theorem infS_12 : (Tryz.prog.info? 12).isSome = true := by kernel_rfl
@[go_sem] theorem ifaceT_12 : ifaceT Tryz.prog 12 = false := by kernel_rfl
@[go_sem] theorem ptrT_12 : ptrT Tryz.prog 12 = false := by kernel_rfl
@[go_sem] theorem zeroT_12 : zeroT Tryz.prog 12 = true := by kernel_rfl
@[go_sem] theorem zeroOk_12 : zeroOk Tryz.prog 12 = true := by kernel_rfl
@[go_sem] theorem bytesOf_12 : bytesOf Tryz.prog 12 = 8 := by kernel_rfl
@[go_sem] theorem zeroD_12 : zeroD Tryz.prog 12 = [.v (.int .u64 0)] := by kernel_rfl
@[go_sem] theorem okT_13 : okT Tryz.prog 13 = true := by kernel_rfl
@[go_sem] theorem szOf_13 : szOf Tryz.prog 13 = 2 := by kernel_rfl
@[go_sem] theorem aggT_13 : aggT Tryz.prog 13 = true := by kernel_rfl
@[go_sem] theorem undS_13 : (Tryz.prog.underlying 13).isSome = true := by kernel_rfl
@[go_sem] theorem infS_13 : (Tryz.prog.info? 13).isSome = true := by kernel_rfl
@[go_sem] theorem ifaceT_13 : ifaceT Tryz.prog 13 = false := by kernel_rfl
@[go_sem] theorem ptrT_13 : ptrT Tryz.prog 13 = false := by kernel_rfl
@[go_sem] theorem zeroT_13 : zeroT Tryz.prog 13 = true := by kernel_rfl
@[go_sem] theorem zeroOk_13 : zeroOk Tryz.prog 13 = true := by kernel_rfl
@[go_sem] theorem bytesOf_13 : bytesOf Tryz.prog 13 = 24 := by kernel_rfl
@[go_sem] theorem zeroD_13 : zeroD Tryz.prog 13 = [.v (.string ⟨#[]⟩), .v (.int .u64 0)] := by kernel_rfl
@[go_sem] theorem fld_13_0 : fld Tryz.prog 13 0 = some (0, 9) := by kernel_rfl
@[go_sem] theorem fld_13_1 : fld Tryz.prog 13 1 = some (1, 12) := by kernel_rfl
@[go_sem] theorem okT_14 : okT Tryz.prog 14 = true := by kernel_rfl
@[go_sem] theorem szOf_14 : szOf Tryz.prog 14 = 2 := by kernel_rfl
@[go_sem] theorem aggT_14 : aggT Tryz.prog 14 = true := by kernel_rfl
@[go_sem] theorem undS_14 : (Tryz.prog.underlying 14).isSome = true := by kernel_rfl
@[go_sem] theorem infS_14 : (Tryz.prog.info? 14).isSome = true := by kernel_rfl
@[go_sem] theorem ifaceT_14 : ifaceT Tryz.prog 14 = false := by kernel_rfl
@[go_sem] theorem ptrT_14 : ptrT Tryz.prog 14 = false := by kernel_rfl
@[go_sem] theorem zeroT_14 : zeroT Tryz.prog 14 = true := by kernel_rfl
@[go_sem] theorem zeroOk_14 : zeroOk Tryz.prog 14 = true := by kernel_rfl
@[go_sem] theorem bytesOf_14 : bytesOf Tryz.prog 14 = 24 := by kernel_rfl
@[go_sem] theorem zeroD_14 : zeroD Tryz.prog 14 = [.v (.string ⟨#[]⟩), .v (.int .u64 0)] := by kernel_rfl
@[go_sem] theorem fld_14_0 : fld Tryz.prog 14 0 = some (0, 9) := by kernel_rfl
@[go_sem] theorem fld_14_1 : fld Tryz.prog 14 1 = some (1, 12) := by kernel_rfl
@[go_sem] theorem okT_15 : okT Tryz.prog 15 = true := by kernel_rfl
@[go_sem] theorem szOf_15 : szOf Tryz.prog 15 = 1 := by kernel_rfl
@[go_sem] theorem aggT_15 : aggT Tryz.prog 15 = false := by kernel_rfl
@[go_sem] theorem undS_15 : (Tryz.prog.underlying 15).isSome = true := by kernel_rfl
@[go_sem] theorem infS_15 : (Tryz.prog.info? 15).isSome = true := by kernel_rfl
@[go_sem] theorem ifaceT_15 : ifaceT Tryz.prog 15 = false := by kernel_rfl
@[go_sem] theorem ptrT_15 : ptrT Tryz.prog 15 = true := by kernel_rfl
@[go_sem] theorem zeroT_15 : zeroT Tryz.prog 15 = true := by kernel_rfl
@[go_sem] theorem zeroOk_15 : zeroOk Tryz.prog 15 = true := by kernel_rfl
@[go_sem] theorem bytesOf_15 : bytesOf Tryz.prog 15 = 8 := by kernel_rfl
@[go_sem] theorem zeroD_15 : zeroD Tryz.prog 15 = [.v (.pointer none)] := by kernel_rfl
@[go_sem] theorem okT_17 : okT Tryz.prog 17 = true := by kernel_rfl
@[go_sem] theorem szOf_17 : szOf Tryz.prog 17 = 1 := by kernel_rfl
@[go_sem] theorem aggT_17 : aggT Tryz.prog 17 = false := by kernel_rfl
@[go_sem] theorem undS_17 : (Tryz.prog.underlying 17).isSome = true := by kernel_rfl
@[go_sem] theorem infS_17 : (Tryz.prog.info? 17).isSome = true := by kernel_rfl
@[go_sem] theorem ifaceT_17 : ifaceT Tryz.prog 17 = false := by kernel_rfl
@[go_sem] theorem ptrT_17 : ptrT Tryz.prog 17 = true := by kernel_rfl
@[go_sem] theorem zeroT_17 : zeroT Tryz.prog 17 = true := by kernel_rfl
@[go_sem] theorem zeroOk_17 : zeroOk Tryz.prog 17 = true := by kernel_rfl
@[go_sem] theorem bytesOf_17 : bytesOf Tryz.prog 17 = 8 := by kernel_rfl
@[go_sem] theorem zeroD_17 : zeroD Tryz.prog 17 = [.v (.pointer none)] := by kernel_rfl
@[go_sem] theorem okT_18 : okT Tryz.prog 18 = true := by kernel_rfl
@[go_sem] theorem szOf_18 : szOf Tryz.prog 18 = 1 := by kernel_rfl
@[go_sem] theorem aggT_18 : aggT Tryz.prog 18 = true := by kernel_rfl
@[go_sem] theorem undS_18 : (Tryz.prog.underlying 18).isSome = true := by kernel_rfl
@[go_sem] theorem infS_18 : (Tryz.prog.info? 18).isSome = true := by kernel_rfl
@[go_sem] theorem ifaceT_18 : ifaceT Tryz.prog 18 = false := by kernel_rfl
@[go_sem] theorem ptrT_18 : ptrT Tryz.prog 18 = false := by kernel_rfl
@[go_sem] theorem zeroT_18 : zeroT Tryz.prog 18 = true := by kernel_rfl
@[go_sem] theorem zeroOk_18 : zeroOk Tryz.prog 18 = true := by kernel_rfl
@[go_sem] theorem bytesOf_18 : bytesOf Tryz.prog 18 = 8 := by kernel_rfl
@[go_sem] theorem zeroD_18 : zeroD Tryz.prog 18 = [.v (.pointer none)] := by kernel_rfl
@[go_sem] theorem fld_18_0 : fld Tryz.prog 18 0 = some (0, 17) := by kernel_rfl
@[go_sem] theorem okT_19 : okT Tryz.prog 19 = true := by kernel_rfl
@[go_sem] theorem szOf_19 : szOf Tryz.prog 19 = 1 := by kernel_rfl
@[go_sem] theorem aggT_19 : aggT Tryz.prog 19 = true := by kernel_rfl
@[go_sem] theorem undS_19 : (Tryz.prog.underlying 19).isSome = true := by kernel_rfl
@[go_sem] theorem infS_19 : (Tryz.prog.info? 19).isSome = true := by kernel_rfl
@[go_sem] theorem ifaceT_19 : ifaceT Tryz.prog 19 = false := by kernel_rfl
@[go_sem] theorem ptrT_19 : ptrT Tryz.prog 19 = false := by kernel_rfl
@[go_sem] theorem zeroT_19 : zeroT Tryz.prog 19 = true := by kernel_rfl
@[go_sem] theorem zeroOk_19 : zeroOk Tryz.prog 19 = true := by kernel_rfl
@[go_sem] theorem bytesOf_19 : bytesOf Tryz.prog 19 = 8 := by kernel_rfl
@[go_sem] theorem zeroD_19 : zeroD Tryz.prog 19 = [.v (.pointer none)] := by kernel_rfl
@[go_sem] theorem fld_19_0 : fld Tryz.prog 19 0 = some (0, 17) := by kernel_rfl
@[go_sem] theorem okT_20 : okT Tryz.prog 20 = true := by kernel_rfl
@[go_sem] theorem szOf_20 : szOf Tryz.prog 20 = 1 := by kernel_rfl
@[go_sem] theorem aggT_20 : aggT Tryz.prog 20 = false := by kernel_rfl
@[go_sem] theorem undS_20 : (Tryz.prog.underlying 20).isSome = true := by kernel_rfl
@[go_sem] theorem infS_20 : (Tryz.prog.info? 20).isSome = true := by kernel_rfl
@[go_sem] theorem ifaceT_20 : ifaceT Tryz.prog 20 = true := by kernel_rfl
@[go_sem] theorem ptrT_20 : ptrT Tryz.prog 20 = false := by kernel_rfl
@[go_sem] theorem zeroT_20 : zeroT Tryz.prog 20 = true := by kernel_rfl
@[go_sem] theorem zeroOk_20 : zeroOk Tryz.prog 20 = true := by kernel_rfl
@[go_sem] theorem bytesOf_20 : bytesOf Tryz.prog 20 = 16 := by kernel_rfl
@[go_sem] theorem zeroD_20 : zeroD Tryz.prog 20 = [.v .nilIface] := by kernel_rfl
@[go_sem] theorem okT_21 : okT Tryz.prog 21 = true := by kernel_rfl
@[go_sem] theorem szOf_21 : szOf Tryz.prog 21 = 1 := by kernel_rfl
@[go_sem] theorem aggT_21 : aggT Tryz.prog 21 = false := by kernel_rfl
@[go_sem] theorem undS_21 : (Tryz.prog.underlying 21).isSome = true := by kernel_rfl
@[go_sem] theorem infS_21 : (Tryz.prog.info? 21).isSome = true := by kernel_rfl
@[go_sem] theorem ifaceT_21 : ifaceT Tryz.prog 21 = false := by kernel_rfl
@[go_sem] theorem ptrT_21 : ptrT Tryz.prog 21 = false := by kernel_rfl
@[go_sem] theorem zeroT_21 : zeroT Tryz.prog 21 = true := by kernel_rfl
@[go_sem] theorem zeroOk_21 : zeroOk Tryz.prog 21 = true := by kernel_rfl
@[go_sem] theorem bytesOf_21 : bytesOf Tryz.prog 21 = 4 := by kernel_rfl
@[go_sem] theorem zeroD_21 : zeroD Tryz.prog 21 = [.v (.int .i32 0)] := by kernel_rfl
@[go_sem] theorem okT_22 : okT Tryz.prog 22 = true := by kernel_rfl
@[go_sem] theorem szOf_22 : szOf Tryz.prog 22 = 1 := by kernel_rfl
@[go_sem] theorem aggT_22 : aggT Tryz.prog 22 = false := by kernel_rfl
@[go_sem] theorem undS_22 : (Tryz.prog.underlying 22).isSome = true := by kernel_rfl
@[go_sem] theorem infS_22 : (Tryz.prog.info? 22).isSome = true := by kernel_rfl
@[go_sem] theorem ifaceT_22 : ifaceT Tryz.prog 22 = false := by kernel_rfl
@[go_sem] theorem ptrT_22 : ptrT Tryz.prog 22 = false := by kernel_rfl
@[go_sem] theorem zeroT_22 : zeroT Tryz.prog 22 = true := by kernel_rfl
@[go_sem] theorem zeroOk_22 : zeroOk Tryz.prog 22 = true := by kernel_rfl
@[go_sem] theorem bytesOf_22 : bytesOf Tryz.prog 22 = 24 := by kernel_rfl
@[go_sem] theorem zeroD_22 : zeroD Tryz.prog 22 = [.sl .full []] := by kernel_rfl
@[go_sem] theorem elT_22 : elT Tryz.prog 22 = some 9 := by kernel_rfl
@[go_sem] theorem bul_22 (own : Own) (es : List D) (ty : TypeId) (cs : Array Bool) : dbuiltin Tryz.prog .len #[22] ty cs [.sl own es] = some (True, .v (.int .i64 es.length)) := bu_len own es _ ty cs elT_22
@[go_sem] theorem bwl_22 (k off n c : Nat) (ty : TypeId) (cs : Array Bool) : dbuiltin Tryz.prog .len #[22] ty cs [.win k off n c] = some (True, .v (.int .i64 n)) := bu_wlen k off n c _ ty cs elT_22
@[go_sem] theorem bwc_22 (k off n c : Nat) (ty : TypeId) (cs : Array Bool) : dbuiltin Tryz.prog .cap #[22] ty cs [.win k off n c] = some (True, .v (.int .i64 c)) := bu_wcap k off n c _ ty cs elT_22
@[go_sem] theorem okT_23 : okT Tryz.prog 23 = true := by kernel_rfl
@[go_sem] theorem szOf_23 : szOf Tryz.prog 23 = 1 := by kernel_rfl
@[go_sem] theorem aggT_23 : aggT Tryz.prog 23 = false := by kernel_rfl
@[go_sem] theorem undS_23 : (Tryz.prog.underlying 23).isSome = true := by kernel_rfl
@[go_sem] theorem infS_23 : (Tryz.prog.info? 23).isSome = true := by kernel_rfl
@[go_sem] theorem ifaceT_23 : ifaceT Tryz.prog 23 = false := by kernel_rfl
@[go_sem] theorem ptrT_23 : ptrT Tryz.prog 23 = false := by kernel_rfl
@[go_sem] theorem zeroT_23 : zeroT Tryz.prog 23 = true := by kernel_rfl
@[go_sem] theorem zeroOk_23 : zeroOk Tryz.prog 23 = true := by kernel_rfl
@[go_sem] theorem bytesOf_23 : bytesOf Tryz.prog 23 = 24 := by kernel_rfl
@[go_sem] theorem zeroD_23 : zeroD Tryz.prog 23 = [.sl .full []] := by kernel_rfl
@[go_sem] theorem elT_23 : elT Tryz.prog 23 = some 25 := by kernel_rfl
@[go_sem] theorem bul_23 (own : Own) (es : List D) (ty : TypeId) (cs : Array Bool) : dbuiltin Tryz.prog .len #[23] ty cs [.sl own es] = some (True, .v (.int .i64 es.length)) := bu_len own es _ ty cs elT_23
@[go_sem] theorem bwl_23 (k off n c : Nat) (ty : TypeId) (cs : Array Bool) : dbuiltin Tryz.prog .len #[23] ty cs [.win k off n c] = some (True, .v (.int .i64 n)) := bu_wlen k off n c _ ty cs elT_23
@[go_sem] theorem bwc_23 (k off n c : Nat) (ty : TypeId) (cs : Array Bool) : dbuiltin Tryz.prog .cap #[23] ty cs [.win k off n c] = some (True, .v (.int .i64 c)) := bu_wcap k off n c _ ty cs elT_23
@[go_sem] theorem okT_24 : okT Tryz.prog 24 = true := by kernel_rfl
@[go_sem] theorem szOf_24 : szOf Tryz.prog 24 = 3 := by kernel_rfl
@[go_sem] theorem aggT_24 : aggT Tryz.prog 24 = true := by kernel_rfl
@[go_sem] theorem undS_24 : (Tryz.prog.underlying 24).isSome = true := by kernel_rfl
@[go_sem] theorem infS_24 : (Tryz.prog.info? 24).isSome = true := by kernel_rfl
@[go_sem] theorem ifaceT_24 : ifaceT Tryz.prog 24 = false := by kernel_rfl
@[go_sem] theorem ptrT_24 : ptrT Tryz.prog 24 = false := by kernel_rfl
@[go_sem] theorem zeroT_24 : zeroT Tryz.prog 24 = true := by kernel_rfl
@[go_sem] theorem zeroOk_24 : zeroOk Tryz.prog 24 = true := by kernel_rfl
@[go_sem] theorem bytesOf_24 : bytesOf Tryz.prog 24 = 56 := by kernel_rfl
@[go_sem] theorem zeroD_24 : zeroD Tryz.prog 24 = [.v (.int .i64 0), .sl .full [], .sl .full []] := by kernel_rfl
@[go_sem] theorem fld_24_0 : fld Tryz.prog 24 0 = some (0, 3) := by kernel_rfl
@[go_sem] theorem fld_24_1 : fld Tryz.prog 24 1 = some (1, 22) := by kernel_rfl
@[go_sem] theorem fld_24_2 : fld Tryz.prog 24 2 = some (2, 23) := by kernel_rfl
@[go_sem] theorem okT_25 : okT Tryz.prog 25 = true := by kernel_rfl
@[go_sem] theorem szOf_25 : szOf Tryz.prog 25 = 3 := by kernel_rfl
@[go_sem] theorem aggT_25 : aggT Tryz.prog 25 = true := by kernel_rfl
@[go_sem] theorem undS_25 : (Tryz.prog.underlying 25).isSome = true := by kernel_rfl
@[go_sem] theorem infS_25 : (Tryz.prog.info? 25).isSome = true := by kernel_rfl
@[go_sem] theorem ifaceT_25 : ifaceT Tryz.prog 25 = false := by kernel_rfl
@[go_sem] theorem ptrT_25 : ptrT Tryz.prog 25 = false := by kernel_rfl
@[go_sem] theorem zeroT_25 : zeroT Tryz.prog 25 = true := by kernel_rfl
@[go_sem] theorem zeroOk_25 : zeroOk Tryz.prog 25 = true := by kernel_rfl
@[go_sem] theorem bytesOf_25 : bytesOf Tryz.prog 25 = 56 := by kernel_rfl
@[go_sem] theorem zeroD_25 : zeroD Tryz.prog 25 = [.v (.int .i64 0), .sl .full [], .sl .full []] := by kernel_rfl
@[go_sem] theorem fld_25_0 : fld Tryz.prog 25 0 = some (0, 3) := by kernel_rfl
@[go_sem] theorem fld_25_1 : fld Tryz.prog 25 1 = some (1, 22) := by kernel_rfl
@[go_sem] theorem fld_25_2 : fld Tryz.prog 25 2 = some (2, 23) := by kernel_rfl
noncomputable def pl25 : Nat → Option (Nat × Nat) := (placeT Tryz.prog 25).getD fun _ => none
@[go_sem] theorem placeT_25 : placeT Tryz.prog 25 = some pl25 := by kernel_rfl
@[go_sem] theorem pl_25_0 : pl25 0 = some (0, 1) := by kernel_rfl
@[go_sem] theorem pl_25_1 : pl25 1 = some (1, 1) := by kernel_rfl
@[go_sem] theorem pl_25_2 : pl25 2 = some (2, 1) := by kernel_rfl
@[go_sem] theorem okT_26 : okT Tryz.prog 26 = true := by kernel_rfl
@[go_sem] theorem szOf_26 : szOf Tryz.prog 26 = 1 := by kernel_rfl
@[go_sem] theorem aggT_26 : aggT Tryz.prog 26 = false := by kernel_rfl
@[go_sem] theorem undS_26 : (Tryz.prog.underlying 26).isSome = true := by kernel_rfl
@[go_sem] theorem infS_26 : (Tryz.prog.info? 26).isSome = true := by kernel_rfl
@[go_sem] theorem ifaceT_26 : ifaceT Tryz.prog 26 = false := by kernel_rfl
@[go_sem] theorem ptrT_26 : ptrT Tryz.prog 26 = false := by kernel_rfl
@[go_sem] theorem zeroT_26 : zeroT Tryz.prog 26 = true := by kernel_rfl
@[go_sem] theorem zeroOk_26 : zeroOk Tryz.prog 26 = true := by kernel_rfl
@[go_sem] theorem bytesOf_26 : bytesOf Tryz.prog 26 = 24 := by kernel_rfl
@[go_sem] theorem zeroD_26 : zeroD Tryz.prog 26 = [.sl .full []] := by kernel_rfl
@[go_sem] theorem elT_26 : elT Tryz.prog 26 = some 42 := by kernel_rfl
@[go_sem] theorem bul_26 (own : Own) (es : List D) (ty : TypeId) (cs : Array Bool) : dbuiltin Tryz.prog .len #[26] ty cs [.sl own es] = some (True, .v (.int .i64 es.length)) := bu_len own es _ ty cs elT_26
@[go_sem] theorem bwl_26 (k off n c : Nat) (ty : TypeId) (cs : Array Bool) : dbuiltin Tryz.prog .len #[26] ty cs [.win k off n c] = some (True, .v (.int .i64 n)) := bu_wlen k off n c _ ty cs elT_26
@[go_sem] theorem bwc_26 (k off n c : Nat) (ty : TypeId) (cs : Array Bool) : dbuiltin Tryz.prog .cap #[26] ty cs [.win k off n c] = some (True, .v (.int .i64 c)) := bu_wcap k off n c _ ty cs elT_26
@[go_sem] theorem okT_27 : okT Tryz.prog 27 = true := by kernel_rfl
@[go_sem] theorem szOf_27 : szOf Tryz.prog 27 = 1 := by kernel_rfl
@[go_sem] theorem aggT_27 : aggT Tryz.prog 27 = false := by kernel_rfl
@[go_sem] theorem undS_27 : (Tryz.prog.underlying 27).isSome = true := by kernel_rfl
@[go_sem] theorem infS_27 : (Tryz.prog.info? 27).isSome = true := by kernel_rfl
@[go_sem] theorem ifaceT_27 : ifaceT Tryz.prog 27 = false := by kernel_rfl
@[go_sem] theorem ptrT_27 : ptrT Tryz.prog 27 = false := by kernel_rfl
@[go_sem] theorem zeroT_27 : zeroT Tryz.prog 27 = true := by kernel_rfl
@[go_sem] theorem zeroOk_27 : zeroOk Tryz.prog 27 = true := by kernel_rfl
@[go_sem] theorem bytesOf_27 : bytesOf Tryz.prog 27 = 24 := by kernel_rfl
@[go_sem] theorem zeroD_27 : zeroD Tryz.prog 27 = [.sl .full []] := by kernel_rfl
@[go_sem] theorem elT_27 : elT Tryz.prog 27 = some 29 := by kernel_rfl
@[go_sem] theorem bul_27 (own : Own) (es : List D) (ty : TypeId) (cs : Array Bool) : dbuiltin Tryz.prog .len #[27] ty cs [.sl own es] = some (True, .v (.int .i64 es.length)) := bu_len own es _ ty cs elT_27
@[go_sem] theorem bwl_27 (k off n c : Nat) (ty : TypeId) (cs : Array Bool) : dbuiltin Tryz.prog .len #[27] ty cs [.win k off n c] = some (True, .v (.int .i64 n)) := bu_wlen k off n c _ ty cs elT_27
@[go_sem] theorem bwc_27 (k off n c : Nat) (ty : TypeId) (cs : Array Bool) : dbuiltin Tryz.prog .cap #[27] ty cs [.win k off n c] = some (True, .v (.int .i64 c)) := bu_wcap k off n c _ ty cs elT_27
@[go_sem] theorem okT_28 : okT Tryz.prog 28 = true := by kernel_rfl
@[go_sem] theorem szOf_28 : szOf Tryz.prog 28 = 6 := by kernel_rfl
@[go_sem] theorem aggT_28 : aggT Tryz.prog 28 = true := by kernel_rfl
@[go_sem] theorem undS_28 : (Tryz.prog.underlying 28).isSome = true := by kernel_rfl
@[go_sem] theorem infS_28 : (Tryz.prog.info? 28).isSome = true := by kernel_rfl
@[go_sem] theorem ifaceT_28 : ifaceT Tryz.prog 28 = false := by kernel_rfl
@[go_sem] theorem ptrT_28 : ptrT Tryz.prog 28 = false := by kernel_rfl
@[go_sem] theorem zeroT_28 : zeroT Tryz.prog 28 = true := by kernel_rfl
@[go_sem] theorem zeroOk_28 : zeroOk Tryz.prog 28 = true := by kernel_rfl
@[go_sem] theorem bytesOf_28 : bytesOf Tryz.prog 28 = 104 := by kernel_rfl
@[go_sem] theorem zeroD_28 : zeroD Tryz.prog 28 = [.v (.int .i64 0), .v (.int .i64 0), .v (.string ⟨#[]⟩), .sl .full [], .sl .full [], .sl .full []] := by kernel_rfl
@[go_sem] theorem fld_28_0 : fld Tryz.prog 28 0 = some (0, 3) := by kernel_rfl
@[go_sem] theorem fld_28_1 : fld Tryz.prog 28 1 = some (1, 3) := by kernel_rfl
@[go_sem] theorem fld_28_2 : fld Tryz.prog 28 2 = some (2, 9) := by kernel_rfl
@[go_sem] theorem fld_28_3 : fld Tryz.prog 28 3 = some (3, 22) := by kernel_rfl
@[go_sem] theorem fld_28_4 : fld Tryz.prog 28 4 = some (4, 26) := by kernel_rfl
@[go_sem] theorem fld_28_5 : fld Tryz.prog 28 5 = some (5, 27) := by kernel_rfl
@[go_sem] theorem okT_29 : okT Tryz.prog 29 = true := by kernel_rfl
@[go_sem] theorem szOf_29 : szOf Tryz.prog 29 = 6 := by kernel_rfl
@[go_sem] theorem aggT_29 : aggT Tryz.prog 29 = true := by kernel_rfl
@[go_sem] theorem undS_29 : (Tryz.prog.underlying 29).isSome = true := by kernel_rfl
@[go_sem] theorem infS_29 : (Tryz.prog.info? 29).isSome = true := by kernel_rfl
@[go_sem] theorem ifaceT_29 : ifaceT Tryz.prog 29 = false := by kernel_rfl
@[go_sem] theorem ptrT_29 : ptrT Tryz.prog 29 = false := by kernel_rfl
@[go_sem] theorem zeroT_29 : zeroT Tryz.prog 29 = true := by kernel_rfl
@[go_sem] theorem zeroOk_29 : zeroOk Tryz.prog 29 = true := by kernel_rfl
@[go_sem] theorem bytesOf_29 : bytesOf Tryz.prog 29 = 104 := by kernel_rfl
@[go_sem] theorem zeroD_29 : zeroD Tryz.prog 29 = [.v (.int .i64 0), .v (.int .i64 0), .v (.string ⟨#[]⟩), .sl .full [], .sl .full [], .sl .full []] := by kernel_rfl
@[go_sem] theorem fld_29_0 : fld Tryz.prog 29 0 = some (0, 3) := by kernel_rfl
@[go_sem] theorem fld_29_1 : fld Tryz.prog 29 1 = some (1, 3) := by kernel_rfl
@[go_sem] theorem fld_29_2 : fld Tryz.prog 29 2 = some (2, 9) := by kernel_rfl
@[go_sem] theorem fld_29_3 : fld Tryz.prog 29 3 = some (3, 22) := by kernel_rfl
@[go_sem] theorem fld_29_4 : fld Tryz.prog 29 4 = some (4, 26) := by kernel_rfl
@[go_sem] theorem fld_29_5 : fld Tryz.prog 29 5 = some (5, 27) := by kernel_rfl
noncomputable def pl29 : Nat → Option (Nat × Nat) := (placeT Tryz.prog 29).getD fun _ => none
@[go_sem] theorem placeT_29 : placeT Tryz.prog 29 = some pl29 := by kernel_rfl
@[go_sem] theorem pl_29_0 : pl29 0 = some (0, 1) := by kernel_rfl
@[go_sem] theorem pl_29_1 : pl29 1 = some (1, 1) := by kernel_rfl
@[go_sem] theorem pl_29_2 : pl29 2 = some (2, 1) := by kernel_rfl
@[go_sem] theorem pl_29_3 : pl29 3 = some (3, 1) := by kernel_rfl
@[go_sem] theorem pl_29_4 : pl29 4 = some (4, 1) := by kernel_rfl
@[go_sem] theorem pl_29_5 : pl29 5 = some (5, 1) := by kernel_rfl
@[go_sem] theorem okT_30 : okT Tryz.prog 30 = true := by kernel_rfl
@[go_sem] theorem szOf_30 : szOf Tryz.prog 30 = 1 := by kernel_rfl
@[go_sem] theorem aggT_30 : aggT Tryz.prog 30 = false := by kernel_rfl
@[go_sem] theorem undS_30 : (Tryz.prog.underlying 30).isSome = true := by kernel_rfl
@[go_sem] theorem infS_30 : (Tryz.prog.info? 30).isSome = true := by kernel_rfl
@[go_sem] theorem ifaceT_30 : ifaceT Tryz.prog 30 = false := by kernel_rfl
@[go_sem] theorem ptrT_30 : ptrT Tryz.prog 30 = false := by kernel_rfl
@[go_sem] theorem zeroT_30 : zeroT Tryz.prog 30 = true := by kernel_rfl
@[go_sem] theorem zeroOk_30 : zeroOk Tryz.prog 30 = true := by kernel_rfl
@[go_sem] theorem bytesOf_30 : bytesOf Tryz.prog 30 = 8 := by kernel_rfl
@[go_sem] theorem zeroD_30 : zeroD Tryz.prog 30 = [.v .nilFunc] := by kernel_rfl
@[go_sem] theorem okT_31 : okT Tryz.prog 31 = true := by kernel_rfl
@[go_sem] theorem szOf_31 : szOf Tryz.prog 31 = 1 := by kernel_rfl
@[go_sem] theorem aggT_31 : aggT Tryz.prog 31 = false := by kernel_rfl
@[go_sem] theorem undS_31 : (Tryz.prog.underlying 31).isSome = true := by kernel_rfl
@[go_sem] theorem infS_31 : (Tryz.prog.info? 31).isSome = true := by kernel_rfl
@[go_sem] theorem ifaceT_31 : ifaceT Tryz.prog 31 = false := by kernel_rfl
@[go_sem] theorem ptrT_31 : ptrT Tryz.prog 31 = false := by kernel_rfl
@[go_sem] theorem zeroT_31 : zeroT Tryz.prog 31 = true := by kernel_rfl
@[go_sem] theorem zeroOk_31 : zeroOk Tryz.prog 31 = true := by kernel_rfl
@[go_sem] theorem bytesOf_31 : bytesOf Tryz.prog 31 = 8 := by kernel_rfl
@[go_sem] theorem zeroD_31 : zeroD Tryz.prog 31 = [.v .nilFunc] := by kernel_rfl
@[go_sem] theorem okT_32 : okT Tryz.prog 32 = true := by kernel_rfl
@[go_sem] theorem szOf_32 : szOf Tryz.prog 32 = 1 := by kernel_rfl
@[go_sem] theorem aggT_32 : aggT Tryz.prog 32 = false := by kernel_rfl
@[go_sem] theorem undS_32 : (Tryz.prog.underlying 32).isSome = true := by kernel_rfl
@[go_sem] theorem infS_32 : (Tryz.prog.info? 32).isSome = true := by kernel_rfl
@[go_sem] theorem ifaceT_32 : ifaceT Tryz.prog 32 = false := by kernel_rfl
@[go_sem] theorem ptrT_32 : ptrT Tryz.prog 32 = false := by kernel_rfl
@[go_sem] theorem zeroT_32 : zeroT Tryz.prog 32 = true := by kernel_rfl
@[go_sem] theorem zeroOk_32 : zeroOk Tryz.prog 32 = true := by kernel_rfl
@[go_sem] theorem bytesOf_32 : bytesOf Tryz.prog 32 = 8 := by kernel_rfl
@[go_sem] theorem zeroD_32 : zeroD Tryz.prog 32 = [.v .nilFunc] := by kernel_rfl
@[go_sem] theorem okT_33 : okT Tryz.prog 33 = true := by kernel_rfl
@[go_sem] theorem szOf_33 : szOf Tryz.prog 33 = 1 := by kernel_rfl
@[go_sem] theorem aggT_33 : aggT Tryz.prog 33 = false := by kernel_rfl
@[go_sem] theorem undS_33 : (Tryz.prog.underlying 33).isSome = true := by kernel_rfl
@[go_sem] theorem infS_33 : (Tryz.prog.info? 33).isSome = true := by kernel_rfl
@[go_sem] theorem ifaceT_33 : ifaceT Tryz.prog 33 = false := by kernel_rfl
@[go_sem] theorem ptrT_33 : ptrT Tryz.prog 33 = false := by kernel_rfl
@[go_sem] theorem zeroT_33 : zeroT Tryz.prog 33 = true := by kernel_rfl
@[go_sem] theorem zeroOk_33 : zeroOk Tryz.prog 33 = true := by kernel_rfl
@[go_sem] theorem bytesOf_33 : bytesOf Tryz.prog 33 = 24 := by kernel_rfl
@[go_sem] theorem zeroD_33 : zeroD Tryz.prog 33 = [.sl .full []] := by kernel_rfl
@[go_sem] theorem elT_33 : elT Tryz.prog 33 = some 44 := by kernel_rfl
@[go_sem] theorem bul_33 (own : Own) (es : List D) (ty : TypeId) (cs : Array Bool) : dbuiltin Tryz.prog .len #[33] ty cs [.sl own es] = some (True, .v (.int .i64 es.length)) := bu_len own es _ ty cs elT_33
@[go_sem] theorem bwl_33 (k off n c : Nat) (ty : TypeId) (cs : Array Bool) : dbuiltin Tryz.prog .len #[33] ty cs [.win k off n c] = some (True, .v (.int .i64 n)) := bu_wlen k off n c _ ty cs elT_33
@[go_sem] theorem bwc_33 (k off n c : Nat) (ty : TypeId) (cs : Array Bool) : dbuiltin Tryz.prog .cap #[33] ty cs [.win k off n c] = some (True, .v (.int .i64 c)) := bu_wcap k off n c _ ty cs elT_33
@[go_sem] theorem okT_34 : okT Tryz.prog 34 = true := by kernel_rfl
@[go_sem] theorem szOf_34 : szOf Tryz.prog 34 = 1 := by kernel_rfl
@[go_sem] theorem aggT_34 : aggT Tryz.prog 34 = false := by kernel_rfl
@[go_sem] theorem undS_34 : (Tryz.prog.underlying 34).isSome = true := by kernel_rfl
@[go_sem] theorem infS_34 : (Tryz.prog.info? 34).isSome = true := by kernel_rfl
@[go_sem] theorem ifaceT_34 : ifaceT Tryz.prog 34 = true := by kernel_rfl
@[go_sem] theorem ptrT_34 : ptrT Tryz.prog 34 = false := by kernel_rfl
@[go_sem] theorem zeroT_34 : zeroT Tryz.prog 34 = true := by kernel_rfl
@[go_sem] theorem zeroOk_34 : zeroOk Tryz.prog 34 = true := by kernel_rfl
@[go_sem] theorem bytesOf_34 : bytesOf Tryz.prog 34 = 16 := by kernel_rfl
@[go_sem] theorem zeroD_34 : zeroD Tryz.prog 34 = [.v .nilIface] := by kernel_rfl
@[go_sem] theorem okT_35 : okT Tryz.prog 35 = true := by kernel_rfl
@[go_sem] theorem szOf_35 : szOf Tryz.prog 35 = 1 := by kernel_rfl
@[go_sem] theorem aggT_35 : aggT Tryz.prog 35 = false := by kernel_rfl
@[go_sem] theorem undS_35 : (Tryz.prog.underlying 35).isSome = true := by kernel_rfl
@[go_sem] theorem infS_35 : (Tryz.prog.info? 35).isSome = true := by kernel_rfl
@[go_sem] theorem ifaceT_35 : ifaceT Tryz.prog 35 = true := by kernel_rfl
@[go_sem] theorem ptrT_35 : ptrT Tryz.prog 35 = false := by kernel_rfl
@[go_sem] theorem zeroT_35 : zeroT Tryz.prog 35 = true := by kernel_rfl
@[go_sem] theorem zeroOk_35 : zeroOk Tryz.prog 35 = true := by kernel_rfl
@[go_sem] theorem bytesOf_35 : bytesOf Tryz.prog 35 = 16 := by kernel_rfl
@[go_sem] theorem zeroD_35 : zeroD Tryz.prog 35 = [.v .nilIface] := by kernel_rfl
@[go_sem] theorem okT_37 : okT Tryz.prog 37 = true := by kernel_rfl
@[go_sem] theorem szOf_37 : szOf Tryz.prog 37 = 1 := by kernel_rfl
@[go_sem] theorem aggT_37 : aggT Tryz.prog 37 = false := by kernel_rfl
@[go_sem] theorem undS_37 : (Tryz.prog.underlying 37).isSome = true := by kernel_rfl
@[go_sem] theorem infS_37 : (Tryz.prog.info? 37).isSome = true := by kernel_rfl
@[go_sem] theorem ifaceT_37 : ifaceT Tryz.prog 37 = false := by kernel_rfl
@[go_sem] theorem ptrT_37 : ptrT Tryz.prog 37 = false := by kernel_rfl
@[go_sem] theorem zeroT_37 : zeroT Tryz.prog 37 = true := by kernel_rfl
@[go_sem] theorem zeroOk_37 : zeroOk Tryz.prog 37 = true := by kernel_rfl
@[go_sem] theorem bytesOf_37 : bytesOf Tryz.prog 37 = 8 := by kernel_rfl
@[go_sem] theorem zeroD_37 : zeroD Tryz.prog 37 = [.v .nilFunc] := by kernel_rfl
@[go_sem] theorem okT_38 : okT Tryz.prog 38 = true := by kernel_rfl
@[go_sem] theorem szOf_38 : szOf Tryz.prog 38 = 1 := by kernel_rfl
@[go_sem] theorem aggT_38 : aggT Tryz.prog 38 = false := by kernel_rfl
@[go_sem] theorem undS_38 : (Tryz.prog.underlying 38).isSome = true := by kernel_rfl
@[go_sem] theorem infS_38 : (Tryz.prog.info? 38).isSome = true := by kernel_rfl
@[go_sem] theorem ifaceT_38 : ifaceT Tryz.prog 38 = false := by kernel_rfl
@[go_sem] theorem ptrT_38 : ptrT Tryz.prog 38 = false := by kernel_rfl
@[go_sem] theorem zeroT_38 : zeroT Tryz.prog 38 = true := by kernel_rfl
@[go_sem] theorem zeroOk_38 : zeroOk Tryz.prog 38 = true := by kernel_rfl
@[go_sem] theorem bytesOf_38 : bytesOf Tryz.prog 38 = 8 := by kernel_rfl
@[go_sem] theorem zeroD_38 : zeroD Tryz.prog 38 = [.v .nilFunc] := by kernel_rfl
@[go_sem] theorem okT_41 : okT Tryz.prog 41 = true := by kernel_rfl
@[go_sem] theorem szOf_41 : szOf Tryz.prog 41 = 1 := by kernel_rfl
@[go_sem] theorem aggT_41 : aggT Tryz.prog 41 = false := by kernel_rfl
@[go_sem] theorem undS_41 : (Tryz.prog.underlying 41).isSome = true := by kernel_rfl
@[go_sem] theorem infS_41 : (Tryz.prog.info? 41).isSome = true := by kernel_rfl
@[go_sem] theorem ifaceT_41 : ifaceT Tryz.prog 41 = false := by kernel_rfl
@[go_sem] theorem ptrT_41 : ptrT Tryz.prog 41 = false := by kernel_rfl
@[go_sem] theorem zeroT_41 : zeroT Tryz.prog 41 = true := by kernel_rfl
@[go_sem] theorem zeroOk_41 : zeroOk Tryz.prog 41 = true := by kernel_rfl
@[go_sem] theorem bytesOf_41 : bytesOf Tryz.prog 41 = 24 := by kernel_rfl
@[go_sem] theorem zeroD_41 : zeroD Tryz.prog 41 = [.sl .full []] := by kernel_rfl
@[go_sem] theorem elT_41 : elT Tryz.prog 41 = some 79 := by kernel_rfl
@[go_sem] theorem bul_41 (own : Own) (es : List D) (ty : TypeId) (cs : Array Bool) : dbuiltin Tryz.prog .len #[41] ty cs [.sl own es] = some (True, .v (.int .i64 es.length)) := bu_len own es _ ty cs elT_41
@[go_sem] theorem bwl_41 (k off n c : Nat) (ty : TypeId) (cs : Array Bool) : dbuiltin Tryz.prog .len #[41] ty cs [.win k off n c] = some (True, .v (.int .i64 n)) := bu_wlen k off n c _ ty cs elT_41
@[go_sem] theorem bwc_41 (k off n c : Nat) (ty : TypeId) (cs : Array Bool) : dbuiltin Tryz.prog .cap #[41] ty cs [.win k off n c] = some (True, .v (.int .i64 c)) := bu_wcap k off n c _ ty cs elT_41
@[go_sem] theorem okT_42 : okT Tryz.prog 42 = true := by kernel_rfl
@[go_sem] theorem szOf_42 : szOf Tryz.prog 42 = 1 := by kernel_rfl
@[go_sem] theorem aggT_42 : aggT Tryz.prog 42 = false := by kernel_rfl
@[go_sem] theorem undS_42 : (Tryz.prog.underlying 42).isSome = true := by kernel_rfl
@[go_sem] theorem infS_42 : (Tryz.prog.info? 42).isSome = true := by kernel_rfl
@[go_sem] theorem ifaceT_42 : ifaceT Tryz.prog 42 = false := by kernel_rfl
@[go_sem] theorem ptrT_42 : ptrT Tryz.prog 42 = false := by kernel_rfl
@[go_sem] theorem zeroT_42 : zeroT Tryz.prog 42 = true := by kernel_rfl
@[go_sem] theorem zeroOk_42 : zeroOk Tryz.prog 42 = true := by kernel_rfl
@[go_sem] theorem bytesOf_42 : bytesOf Tryz.prog 42 = 8 := by kernel_rfl
@[go_sem] theorem zeroD_42 : zeroD Tryz.prog 42 = [.v (.int .u64 0)] := by kernel_rfl
@[go_sem] theorem okT_44 : okT Tryz.prog 44 = true := by kernel_rfl
@[go_sem] theorem szOf_44 : szOf Tryz.prog 44 = 10 := by kernel_rfl
@[go_sem] theorem aggT_44 : aggT Tryz.prog 44 = true := by kernel_rfl
@[go_sem] theorem undS_44 : (Tryz.prog.underlying 44).isSome = true := by kernel_rfl
@[go_sem] theorem infS_44 : (Tryz.prog.info? 44).isSome = true := by kernel_rfl
@[go_sem] theorem ifaceT_44 : ifaceT Tryz.prog 44 = false := by kernel_rfl
@[go_sem] theorem ptrT_44 : ptrT Tryz.prog 44 = false := by kernel_rfl
@[go_sem] theorem zeroT_44 : zeroT Tryz.prog 44 = true := by kernel_rfl
@[go_sem] theorem zeroOk_44 : zeroOk Tryz.prog 44 = true := by kernel_rfl
@[go_sem] theorem bytesOf_44 : bytesOf Tryz.prog 44 = 152 := by kernel_rfl
@[go_sem] theorem zeroD_44 : zeroD Tryz.prog 44 = [.v (.int .i64 0), .sl .full [], .v (.int .u64 0), .v (.int .u64 0), .v (.int .i64 0), .v (.int .i64 0), .v (.string ⟨#[]⟩), .sl .full [], .sl .full [], .sl .full []] := by kernel_rfl
@[go_sem] theorem fld_44_0 : fld Tryz.prog 44 0 = some (0, 3) := by kernel_rfl
@[go_sem] theorem fld_44_1 : fld Tryz.prog 44 1 = some (1, 41) := by kernel_rfl
@[go_sem] theorem fld_44_2 : fld Tryz.prog 44 2 = some (2, 42) := by kernel_rfl
@[go_sem] theorem fld_44_3 : fld Tryz.prog 44 3 = some (3, 42) := by kernel_rfl
@[go_sem] theorem fld_44_4 : fld Tryz.prog 44 4 = some (4, 29) := by kernel_rfl
noncomputable def pl44 : Nat → Option (Nat × Nat) := (placeT Tryz.prog 44).getD fun _ => none
@[go_sem] theorem placeT_44 : placeT Tryz.prog 44 = some pl44 := by kernel_rfl
@[go_sem] theorem pl_44_0 : pl44 0 = some (0, 1) := by kernel_rfl
@[go_sem] theorem pl_44_1 : pl44 1 = some (1, 1) := by kernel_rfl
@[go_sem] theorem pl_44_2 : pl44 2 = some (2, 1) := by kernel_rfl
@[go_sem] theorem pl_44_3 : pl44 3 = some (3, 1) := by kernel_rfl
@[go_sem] theorem pl_44_4 : pl44 4 = some (4, 6) := by kernel_rfl
@[go_sem] theorem okT_45 : okT Tryz.prog 45 = true := by kernel_rfl
@[go_sem] theorem szOf_45 : szOf Tryz.prog 45 = 1 := by kernel_rfl
@[go_sem] theorem aggT_45 : aggT Tryz.prog 45 = false := by kernel_rfl
@[go_sem] theorem undS_45 : (Tryz.prog.underlying 45).isSome = true := by kernel_rfl
@[go_sem] theorem infS_45 : (Tryz.prog.info? 45).isSome = true := by kernel_rfl
@[go_sem] theorem ifaceT_45 : ifaceT Tryz.prog 45 = false := by kernel_rfl
@[go_sem] theorem ptrT_45 : ptrT Tryz.prog 45 = false := by kernel_rfl
@[go_sem] theorem zeroT_45 : zeroT Tryz.prog 45 = true := by kernel_rfl
@[go_sem] theorem zeroOk_45 : zeroOk Tryz.prog 45 = true := by kernel_rfl
@[go_sem] theorem bytesOf_45 : bytesOf Tryz.prog 45 = 8 := by kernel_rfl
@[go_sem] theorem zeroD_45 : zeroD Tryz.prog 45 = [.v .nilFunc] := by kernel_rfl
@[go_sem] theorem okT_47 : okT Tryz.prog 47 = true := by kernel_rfl
@[go_sem] theorem szOf_47 : szOf Tryz.prog 47 = 1 := by kernel_rfl
@[go_sem] theorem aggT_47 : aggT Tryz.prog 47 = false := by kernel_rfl
@[go_sem] theorem undS_47 : (Tryz.prog.underlying 47).isSome = true := by kernel_rfl
@[go_sem] theorem infS_47 : (Tryz.prog.info? 47).isSome = true := by kernel_rfl
@[go_sem] theorem ifaceT_47 : ifaceT Tryz.prog 47 = false := by kernel_rfl
@[go_sem] theorem ptrT_47 : ptrT Tryz.prog 47 = false := by kernel_rfl
@[go_sem] theorem zeroT_47 : zeroT Tryz.prog 47 = true := by kernel_rfl
@[go_sem] theorem zeroOk_47 : zeroOk Tryz.prog 47 = true := by kernel_rfl
@[go_sem] theorem bytesOf_47 : bytesOf Tryz.prog 47 = 8 := by kernel_rfl
@[go_sem] theorem zeroD_47 : zeroD Tryz.prog 47 = [.v .nilFunc] := by kernel_rfl
@[go_sem] theorem okT_53 : okT Tryz.prog 53 = true := by kernel_rfl
@[go_sem] theorem szOf_53 : szOf Tryz.prog 53 = 1 := by kernel_rfl
@[go_sem] theorem aggT_53 : aggT Tryz.prog 53 = false := by kernel_rfl
@[go_sem] theorem undS_53 : (Tryz.prog.underlying 53).isSome = true := by kernel_rfl
@[go_sem] theorem infS_53 : (Tryz.prog.info? 53).isSome = true := by kernel_rfl
@[go_sem] theorem ifaceT_53 : ifaceT Tryz.prog 53 = false := by kernel_rfl
@[go_sem] theorem ptrT_53 : ptrT Tryz.prog 53 = false := by kernel_rfl
@[go_sem] theorem zeroT_53 : zeroT Tryz.prog 53 = true := by kernel_rfl
@[go_sem] theorem zeroOk_53 : zeroOk Tryz.prog 53 = true := by kernel_rfl
@[go_sem] theorem bytesOf_53 : bytesOf Tryz.prog 53 = 24 := by kernel_rfl
@[go_sem] theorem zeroD_53 : zeroD Tryz.prog 53 = [.sl .full []] := by kernel_rfl
@[go_sem] theorem elT_53 : elT Tryz.prog 53 = some 5 := by kernel_rfl
@[go_sem] theorem bul_53 (own : Own) (es : List D) (ty : TypeId) (cs : Array Bool) : dbuiltin Tryz.prog .len #[53] ty cs [.sl own es] = some (True, .v (.int .i64 es.length)) := bu_len own es _ ty cs elT_53
@[go_sem] theorem bwl_53 (k off n c : Nat) (ty : TypeId) (cs : Array Bool) : dbuiltin Tryz.prog .len #[53] ty cs [.win k off n c] = some (True, .v (.int .i64 n)) := bu_wlen k off n c _ ty cs elT_53
@[go_sem] theorem bwc_53 (k off n c : Nat) (ty : TypeId) (cs : Array Bool) : dbuiltin Tryz.prog .cap #[53] ty cs [.win k off n c] = some (True, .v (.int .i64 c)) := bu_wcap k off n c _ ty cs elT_53
@[go_sem] theorem okT_62 : okT Tryz.prog 62 = true := by kernel_rfl
@[go_sem] theorem szOf_62 : szOf Tryz.prog 62 = 1 := by kernel_rfl
@[go_sem] theorem aggT_62 : aggT Tryz.prog 62 = false := by kernel_rfl
@[go_sem] theorem undS_62 : (Tryz.prog.underlying 62).isSome = true := by kernel_rfl
@[go_sem] theorem infS_62 : (Tryz.prog.info? 62).isSome = true := by kernel_rfl
@[go_sem] theorem ifaceT_62 : ifaceT Tryz.prog 62 = false := by kernel_rfl
@[go_sem] theorem ptrT_62 : ptrT Tryz.prog 62 = false := by kernel_rfl
@[go_sem] theorem zeroT_62 : zeroT Tryz.prog 62 = true := by kernel_rfl
@[go_sem] theorem zeroOk_62 : zeroOk Tryz.prog 62 = true := by kernel_rfl
@[go_sem] theorem bytesOf_62 : bytesOf Tryz.prog 62 = 8 := by kernel_rfl
@[go_sem] theorem zeroD_62 : zeroD Tryz.prog 62 = [.v (.int .i64 0)] := by kernel_rfl
@[go_sem] theorem okT_63 : okT Tryz.prog 63 = true := by kernel_rfl
@[go_sem] theorem szOf_63 : szOf Tryz.prog 63 = 1 := by kernel_rfl
@[go_sem] theorem aggT_63 : aggT Tryz.prog 63 = false := by kernel_rfl
@[go_sem] theorem undS_63 : (Tryz.prog.underlying 63).isSome = true := by kernel_rfl
@[go_sem] theorem infS_63 : (Tryz.prog.info? 63).isSome = true := by kernel_rfl
@[go_sem] theorem ifaceT_63 : ifaceT Tryz.prog 63 = false := by kernel_rfl
@[go_sem] theorem ptrT_63 : ptrT Tryz.prog 63 = true := by kernel_rfl
@[go_sem] theorem zeroT_63 : zeroT Tryz.prog 63 = true := by kernel_rfl
@[go_sem] theorem zeroOk_63 : zeroOk Tryz.prog 63 = true := by kernel_rfl
@[go_sem] theorem bytesOf_63 : bytesOf Tryz.prog 63 = 8 := by kernel_rfl
@[go_sem] theorem zeroD_63 : zeroD Tryz.prog 63 = [.v (.pointer none)] := by kernel_rfl
@[go_sem] theorem okT_65 : okT Tryz.prog 65 = true := by kernel_rfl
@[go_sem] theorem szOf_65 : szOf Tryz.prog 65 = 1 := by kernel_rfl
@[go_sem] theorem aggT_65 : aggT Tryz.prog 65 = true := by kernel_rfl
@[go_sem] theorem undS_65 : (Tryz.prog.underlying 65).isSome = true := by kernel_rfl
@[go_sem] theorem infS_65 : (Tryz.prog.info? 65).isSome = true := by kernel_rfl
@[go_sem] theorem ifaceT_65 : ifaceT Tryz.prog 65 = false := by kernel_rfl
@[go_sem] theorem ptrT_65 : ptrT Tryz.prog 65 = false := by kernel_rfl
@[go_sem] theorem zeroT_65 : zeroT Tryz.prog 65 = true := by kernel_rfl
@[go_sem] theorem zeroOk_65 : zeroOk Tryz.prog 65 = true := by kernel_rfl
@[go_sem] theorem bytesOf_65 : bytesOf Tryz.prog 65 = 24 := by kernel_rfl
@[go_sem] theorem zeroD_65 : zeroD Tryz.prog 65 = [.sl .full []] := by kernel_rfl
@[go_sem] theorem fld_65_0 : fld Tryz.prog 65 0 = some (0, 33) := by kernel_rfl
@[go_sem] theorem okT_69 : okT Tryz.prog 69 = true := by kernel_rfl
@[go_sem] theorem szOf_69 : szOf Tryz.prog 69 = 1 := by kernel_rfl
@[go_sem] theorem aggT_69 : aggT Tryz.prog 69 = false := by kernel_rfl
@[go_sem] theorem undS_69 : (Tryz.prog.underlying 69).isSome = true := by kernel_rfl
@[go_sem] theorem infS_69 : (Tryz.prog.info? 69).isSome = true := by kernel_rfl
@[go_sem] theorem ifaceT_69 : ifaceT Tryz.prog 69 = false := by kernel_rfl
@[go_sem] theorem ptrT_69 : ptrT Tryz.prog 69 = true := by kernel_rfl
@[go_sem] theorem zeroT_69 : zeroT Tryz.prog 69 = true := by kernel_rfl
@[go_sem] theorem zeroOk_69 : zeroOk Tryz.prog 69 = true := by kernel_rfl
@[go_sem] theorem bytesOf_69 : bytesOf Tryz.prog 69 = 8 := by kernel_rfl
@[go_sem] theorem zeroD_69 : zeroD Tryz.prog 69 = [.v (.pointer none)] := by kernel_rfl
@[go_sem] theorem okT_79 : okT Tryz.prog 79 = true := by kernel_rfl
@[go_sem] theorem szOf_79 : szOf Tryz.prog 79 = 2 := by kernel_rfl
@[go_sem] theorem aggT_79 : aggT Tryz.prog 79 = true := by kernel_rfl
@[go_sem] theorem undS_79 : (Tryz.prog.underlying 79).isSome = true := by kernel_rfl
@[go_sem] theorem infS_79 : (Tryz.prog.info? 79).isSome = true := by kernel_rfl
@[go_sem] theorem ifaceT_79 : ifaceT Tryz.prog 79 = false := by kernel_rfl
@[go_sem] theorem ptrT_79 : ptrT Tryz.prog 79 = false := by kernel_rfl
@[go_sem] theorem zeroT_79 : zeroT Tryz.prog 79 = true := by kernel_rfl
@[go_sem] theorem zeroOk_79 : zeroOk Tryz.prog 79 = true := by kernel_rfl
@[go_sem] theorem bytesOf_79 : bytesOf Tryz.prog 79 = 24 := by kernel_rfl
@[go_sem] theorem zeroD_79 : zeroD Tryz.prog 79 = [.v (.string ⟨#[]⟩), .v (.int .u64 0)] := by kernel_rfl
@[go_sem] theorem fld_79_0 : fld Tryz.prog 79 0 = some (0, 9) := by kernel_rfl
@[go_sem] theorem fld_79_1 : fld Tryz.prog 79 1 = some (1, 42) := by kernel_rfl
noncomputable def pl79 : Nat → Option (Nat × Nat) := (placeT Tryz.prog 79).getD fun _ => none
@[go_sem] theorem placeT_79 : placeT Tryz.prog 79 = some pl79 := by kernel_rfl
@[go_sem] theorem pl_79_0 : pl79 0 = some (0, 1) := by kernel_rfl
@[go_sem] theorem pl_79_1 : pl79 1 = some (1, 1) := by kernel_rfl
@[go_sem] theorem okT_86 : okT Tryz.prog 86 = true := by kernel_rfl
@[go_sem] theorem szOf_86 : szOf Tryz.prog 86 = 1 := by kernel_rfl
@[go_sem] theorem aggT_86 : aggT Tryz.prog 86 = true := by kernel_rfl
@[go_sem] theorem undS_86 : (Tryz.prog.underlying 86).isSome = true := by kernel_rfl
@[go_sem] theorem infS_86 : (Tryz.prog.info? 86).isSome = true := by kernel_rfl
@[go_sem] theorem ifaceT_86 : ifaceT Tryz.prog 86 = false := by kernel_rfl
@[go_sem] theorem ptrT_86 : ptrT Tryz.prog 86 = false := by kernel_rfl
@[go_sem] theorem zeroT_86 : zeroT Tryz.prog 86 = true := by kernel_rfl
@[go_sem] theorem zeroOk_86 : zeroOk Tryz.prog 86 = true := by kernel_rfl
@[go_sem] theorem bytesOf_86 : bytesOf Tryz.prog 86 = 24 := by kernel_rfl
@[go_sem] theorem zeroD_86 : zeroD Tryz.prog 86 = [.sl .full []] := by kernel_rfl
@[go_sem] theorem fld_86_0 : fld Tryz.prog 86 0 = some (0, 53) := by kernel_rfl
@[go_sem] theorem okT_88 : okT Tryz.prog 88 = true := by kernel_rfl
@[go_sem] theorem szOf_88 : szOf Tryz.prog 88 = 1 := by kernel_rfl
@[go_sem] theorem aggT_88 : aggT Tryz.prog 88 = false := by kernel_rfl
@[go_sem] theorem undS_88 : (Tryz.prog.underlying 88).isSome = true := by kernel_rfl
@[go_sem] theorem infS_88 : (Tryz.prog.info? 88).isSome = true := by kernel_rfl
@[go_sem] theorem ifaceT_88 : ifaceT Tryz.prog 88 = false := by kernel_rfl
@[go_sem] theorem ptrT_88 : ptrT Tryz.prog 88 = true := by kernel_rfl
@[go_sem] theorem zeroT_88 : zeroT Tryz.prog 88 = true := by kernel_rfl
@[go_sem] theorem zeroOk_88 : zeroOk Tryz.prog 88 = true := by kernel_rfl
@[go_sem] theorem bytesOf_88 : bytesOf Tryz.prog 88 = 8 := by kernel_rfl
@[go_sem] theorem zeroD_88 : zeroD Tryz.prog 88 = [.v (.pointer none)] := by kernel_rfl
@[go_sem] theorem okT_93 : okT Tryz.prog 93 = true := by kernel_rfl
@[go_sem] theorem szOf_93 : szOf Tryz.prog 93 = 1 := by kernel_rfl
@[go_sem] theorem aggT_93 : aggT Tryz.prog 93 = false := by kernel_rfl
@[go_sem] theorem undS_93 : (Tryz.prog.underlying 93).isSome = true := by kernel_rfl
@[go_sem] theorem infS_93 : (Tryz.prog.info? 93).isSome = true := by kernel_rfl
@[go_sem] theorem ifaceT_93 : ifaceT Tryz.prog 93 = false := by kernel_rfl
@[go_sem] theorem ptrT_93 : ptrT Tryz.prog 93 = true := by kernel_rfl
@[go_sem] theorem zeroT_93 : zeroT Tryz.prog 93 = true := by kernel_rfl
@[go_sem] theorem zeroOk_93 : zeroOk Tryz.prog 93 = true := by kernel_rfl
@[go_sem] theorem bytesOf_93 : bytesOf Tryz.prog 93 = 8 := by kernel_rfl
@[go_sem] theorem zeroD_93 : zeroD Tryz.prog 93 = [.v (.pointer none)] := by kernel_rfl
@[go_sem] theorem okT_100 : okT Tryz.prog 100 = true := by kernel_rfl
@[go_sem] theorem szOf_100 : szOf Tryz.prog 100 = 1 := by kernel_rfl
@[go_sem] theorem aggT_100 : aggT Tryz.prog 100 = false := by kernel_rfl
@[go_sem] theorem undS_100 : (Tryz.prog.underlying 100).isSome = true := by kernel_rfl
@[go_sem] theorem infS_100 : (Tryz.prog.info? 100).isSome = true := by kernel_rfl
@[go_sem] theorem ifaceT_100 : ifaceT Tryz.prog 100 = false := by kernel_rfl
@[go_sem] theorem ptrT_100 : ptrT Tryz.prog 100 = false := by kernel_rfl
@[go_sem] theorem zeroT_100 : zeroT Tryz.prog 100 = true := by kernel_rfl
@[go_sem] theorem zeroOk_100 : zeroOk Tryz.prog 100 = true := by kernel_rfl
@[go_sem] theorem bytesOf_100 : bytesOf Tryz.prog 100 = 8 := by kernel_rfl
@[go_sem] theorem zeroD_100 : zeroD Tryz.prog 100 = [.v .nilFunc] := by kernel_rfl
@[go_sem] theorem okT_101 : okT Tryz.prog 101 = true := by kernel_rfl
@[go_sem] theorem szOf_101 : szOf Tryz.prog 101 = 1 := by kernel_rfl
@[go_sem] theorem aggT_101 : aggT Tryz.prog 101 = false := by kernel_rfl
@[go_sem] theorem undS_101 : (Tryz.prog.underlying 101).isSome = true := by kernel_rfl
@[go_sem] theorem infS_101 : (Tryz.prog.info? 101).isSome = true := by kernel_rfl
@[go_sem] theorem ifaceT_101 : ifaceT Tryz.prog 101 = false := by kernel_rfl
@[go_sem] theorem ptrT_101 : ptrT Tryz.prog 101 = false := by kernel_rfl
@[go_sem] theorem zeroT_101 : zeroT Tryz.prog 101 = true := by kernel_rfl
@[go_sem] theorem zeroOk_101 : zeroOk Tryz.prog 101 = true := by kernel_rfl
@[go_sem] theorem bytesOf_101 : bytesOf Tryz.prog 101 = 8 := by kernel_rfl
@[go_sem] theorem zeroD_101 : zeroD Tryz.prog 101 = [.v .nilFunc] := by kernel_rfl
@[go_sem] theorem okT_102 : okT Tryz.prog 102 = true := by kernel_rfl
@[go_sem] theorem szOf_102 : szOf Tryz.prog 102 = 1 := by kernel_rfl
@[go_sem] theorem aggT_102 : aggT Tryz.prog 102 = false := by kernel_rfl
@[go_sem] theorem undS_102 : (Tryz.prog.underlying 102).isSome = true := by kernel_rfl
@[go_sem] theorem infS_102 : (Tryz.prog.info? 102).isSome = true := by kernel_rfl
@[go_sem] theorem ifaceT_102 : ifaceT Tryz.prog 102 = false := by kernel_rfl
@[go_sem] theorem ptrT_102 : ptrT Tryz.prog 102 = false := by kernel_rfl
@[go_sem] theorem zeroT_102 : zeroT Tryz.prog 102 = true := by kernel_rfl
@[go_sem] theorem zeroOk_102 : zeroOk Tryz.prog 102 = true := by kernel_rfl
@[go_sem] theorem bytesOf_102 : bytesOf Tryz.prog 102 = 8 := by kernel_rfl
@[go_sem] theorem zeroD_102 : zeroD Tryz.prog 102 = [.v (.pointer none)] := by kernel_rfl
@[go_sem] theorem okT_103 : okT Tryz.prog 103 = true := by kernel_rfl
@[go_sem] theorem szOf_103 : szOf Tryz.prog 103 = 1 := by kernel_rfl
@[go_sem] theorem aggT_103 : aggT Tryz.prog 103 = false := by kernel_rfl
@[go_sem] theorem undS_103 : (Tryz.prog.underlying 103).isSome = true := by kernel_rfl
@[go_sem] theorem infS_103 : (Tryz.prog.info? 103).isSome = true := by kernel_rfl
@[go_sem] theorem ifaceT_103 : ifaceT Tryz.prog 103 = false := by kernel_rfl
@[go_sem] theorem ptrT_103 : ptrT Tryz.prog 103 = false := by kernel_rfl
@[go_sem] theorem zeroT_103 : zeroT Tryz.prog 103 = true := by kernel_rfl
@[go_sem] theorem zeroOk_103 : zeroOk Tryz.prog 103 = true := by kernel_rfl
@[go_sem] theorem bytesOf_103 : bytesOf Tryz.prog 103 = 8 := by kernel_rfl
@[go_sem] theorem zeroD_103 : zeroD Tryz.prog 103 = [.v (.int .u64 0)] := by kernel_rfl
@[go_sem] theorem okT_105 : okT Tryz.prog 105 = true := by kernel_rfl
@[go_sem] theorem szOf_105 : szOf Tryz.prog 105 = 3 := by kernel_rfl
@[go_sem] theorem aggT_105 : aggT Tryz.prog 105 = true := by kernel_rfl
@[go_sem] theorem undS_105 : (Tryz.prog.underlying 105).isSome = true := by kernel_rfl
@[go_sem] theorem infS_105 : (Tryz.prog.info? 105).isSome = true := by kernel_rfl
@[go_sem] theorem ifaceT_105 : ifaceT Tryz.prog 105 = false := by kernel_rfl
@[go_sem] theorem ptrT_105 : ptrT Tryz.prog 105 = false := by kernel_rfl
@[go_sem] theorem zeroT_105 : zeroT Tryz.prog 105 = true := by kernel_rfl
@[go_sem] theorem zeroOk_105 : zeroOk Tryz.prog 105 = true := by kernel_rfl
@[go_sem] theorem bytesOf_105 : bytesOf Tryz.prog 105 = 24 := by kernel_rfl
@[go_sem] theorem zeroD_105 : zeroD Tryz.prog 105 = [.v (.pointer none), .v (.pointer none), .v (.int .u64 0)] := by kernel_rfl
@[go_sem] theorem fld_105_0 : fld Tryz.prog 105 0 = some (0, 17) := by kernel_rfl
@[go_sem] theorem fld_105_1 : fld Tryz.prog 105 1 = some (1, 102) := by kernel_rfl
@[go_sem] theorem fld_105_2 : fld Tryz.prog 105 2 = some (2, 103) := by kernel_rfl
@[go_sem] theorem okT_108 : okT Tryz.prog 108 = true := by kernel_rfl
@[go_sem] theorem szOf_108 : szOf Tryz.prog 108 = 1 := by kernel_rfl
@[go_sem] theorem aggT_108 : aggT Tryz.prog 108 = false := by kernel_rfl
@[go_sem] theorem undS_108 : (Tryz.prog.underlying 108).isSome = true := by kernel_rfl
@[go_sem] theorem infS_108 : (Tryz.prog.info? 108).isSome = true := by kernel_rfl
@[go_sem] theorem ifaceT_108 : ifaceT Tryz.prog 108 = true := by kernel_rfl
@[go_sem] theorem ptrT_108 : ptrT Tryz.prog 108 = false := by kernel_rfl
@[go_sem] theorem zeroT_108 : zeroT Tryz.prog 108 = true := by kernel_rfl
@[go_sem] theorem zeroOk_108 : zeroOk Tryz.prog 108 = true := by kernel_rfl
@[go_sem] theorem bytesOf_108 : bytesOf Tryz.prog 108 = 16 := by kernel_rfl
@[go_sem] theorem zeroD_108 : zeroD Tryz.prog 108 = [.v .nilIface] := by kernel_rfl
@[go_sem] theorem okT_110 : okT Tryz.prog 110 = true := by kernel_rfl
@[go_sem] theorem szOf_110 : szOf Tryz.prog 110 = 1 := by kernel_rfl
@[go_sem] theorem aggT_110 : aggT Tryz.prog 110 = false := by kernel_rfl
@[go_sem] theorem undS_110 : (Tryz.prog.underlying 110).isSome = true := by kernel_rfl
@[go_sem] theorem infS_110 : (Tryz.prog.info? 110).isSome = true := by kernel_rfl
@[go_sem] theorem ifaceT_110 : ifaceT Tryz.prog 110 = false := by kernel_rfl
@[go_sem] theorem ptrT_110 : ptrT Tryz.prog 110 = false := by kernel_rfl
@[go_sem] theorem zeroT_110 : zeroT Tryz.prog 110 = true := by kernel_rfl
@[go_sem] theorem zeroOk_110 : zeroOk Tryz.prog 110 = true := by kernel_rfl
@[go_sem] theorem bytesOf_110 : bytesOf Tryz.prog 110 = 1 := by kernel_rfl
@[go_sem] theorem zeroD_110 : zeroD Tryz.prog 110 = [.v (.int .u8 0)] := by kernel_rfl
@[go_sem] theorem okT_119 : okT Tryz.prog 119 = true := by kernel_rfl
@[go_sem] theorem szOf_119 : szOf Tryz.prog 119 = 1 := by kernel_rfl
@[go_sem] theorem aggT_119 : aggT Tryz.prog 119 = false := by kernel_rfl
@[go_sem] theorem undS_119 : (Tryz.prog.underlying 119).isSome = true := by kernel_rfl
@[go_sem] theorem infS_119 : (Tryz.prog.info? 119).isSome = true := by kernel_rfl
@[go_sem] theorem ifaceT_119 : ifaceT Tryz.prog 119 = false := by kernel_rfl
@[go_sem] theorem ptrT_119 : ptrT Tryz.prog 119 = false := by kernel_rfl
@[go_sem] theorem zeroT_119 : zeroT Tryz.prog 119 = true := by kernel_rfl
@[go_sem] theorem zeroOk_119 : zeroOk Tryz.prog 119 = true := by kernel_rfl
@[go_sem] theorem bytesOf_119 : bytesOf Tryz.prog 119 = 8 := by kernel_rfl
@[go_sem] theorem zeroD_119 : zeroD Tryz.prog 119 = [.v .nilFunc] := by kernel_rfl
@[go_sem] theorem okT_133 : okT Tryz.prog 133 = true := by kernel_rfl
@[go_sem] theorem szOf_133 : szOf Tryz.prog 133 = 3 := by kernel_rfl
@[go_sem] theorem aggT_133 : aggT Tryz.prog 133 = true := by kernel_rfl
@[go_sem] theorem undS_133 : (Tryz.prog.underlying 133).isSome = true := by kernel_rfl
@[go_sem] theorem infS_133 : (Tryz.prog.info? 133).isSome = true := by kernel_rfl
@[go_sem] theorem ifaceT_133 : ifaceT Tryz.prog 133 = false := by kernel_rfl
@[go_sem] theorem ptrT_133 : ptrT Tryz.prog 133 = false := by kernel_rfl
@[go_sem] theorem zeroT_133 : zeroT Tryz.prog 133 = true := by kernel_rfl
@[go_sem] theorem zeroOk_133 : zeroOk Tryz.prog 133 = true := by kernel_rfl
@[go_sem] theorem bytesOf_133 : bytesOf Tryz.prog 133 = 48 := by kernel_rfl
@[go_sem] theorem zeroD_133 : zeroD Tryz.prog 133 = [.sl .full [], .v (.int .i64 0), .v .nilIface] := by kernel_rfl
@[go_sem] theorem fld_133_0 : fld Tryz.prog 133 0 = some (0, 53) := by kernel_rfl
@[go_sem] theorem fld_133_1 : fld Tryz.prog 133 1 = some (1, 3) := by kernel_rfl
@[go_sem] theorem fld_133_2 : fld Tryz.prog 133 2 = some (2, 35) := by kernel_rfl
noncomputable def pl133 : Nat → Option (Nat × Nat) := (placeT Tryz.prog 133).getD fun _ => none
@[go_sem] theorem placeT_133 : placeT Tryz.prog 133 = some pl133 := by kernel_rfl
@[go_sem] theorem pl_133_0 : pl133 0 = some (0, 1) := by kernel_rfl
@[go_sem] theorem pl_133_1 : pl133 1 = some (1, 1) := by kernel_rfl
@[go_sem] theorem pl_133_2 : pl133 2 = some (2, 1) := by kernel_rfl
@[go_sem] theorem okT_162 : okT Tryz.prog 162 = true := by kernel_rfl
@[go_sem] theorem szOf_162 : szOf Tryz.prog 162 = 1 := by kernel_rfl
@[go_sem] theorem aggT_162 : aggT Tryz.prog 162 = false := by kernel_rfl
@[go_sem] theorem undS_162 : (Tryz.prog.underlying 162).isSome = true := by kernel_rfl
@[go_sem] theorem infS_162 : (Tryz.prog.info? 162).isSome = true := by kernel_rfl
@[go_sem] theorem ifaceT_162 : ifaceT Tryz.prog 162 = false := by kernel_rfl
@[go_sem] theorem ptrT_162 : ptrT Tryz.prog 162 = false := by kernel_rfl
@[go_sem] theorem zeroT_162 : zeroT Tryz.prog 162 = true := by kernel_rfl
@[go_sem] theorem zeroOk_162 : zeroOk Tryz.prog 162 = true := by kernel_rfl
@[go_sem] theorem bytesOf_162 : bytesOf Tryz.prog 162 = 24 := by kernel_rfl
@[go_sem] theorem zeroD_162 : zeroD Tryz.prog 162 = [.sl .full []] := by kernel_rfl
@[go_sem] theorem elT_162 : elT Tryz.prog 162 = some 35 := by kernel_rfl
@[go_sem] theorem bul_162 (own : Own) (es : List D) (ty : TypeId) (cs : Array Bool) : dbuiltin Tryz.prog .len #[162] ty cs [.sl own es] = some (True, .v (.int .i64 es.length)) := bu_len own es _ ty cs elT_162
@[go_sem] theorem bwl_162 (k off n c : Nat) (ty : TypeId) (cs : Array Bool) : dbuiltin Tryz.prog .len #[162] ty cs [.win k off n c] = some (True, .v (.int .i64 n)) := bu_wlen k off n c _ ty cs elT_162
@[go_sem] theorem bwc_162 (k off n c : Nat) (ty : TypeId) (cs : Array Bool) : dbuiltin Tryz.prog .cap #[162] ty cs [.win k off n c] = some (True, .v (.int .i64 c)) := bu_wcap k off n c _ ty cs elT_162
@[go_sem] theorem okT_177 : okT Tryz.prog 177 = true := by kernel_rfl
@[go_sem] theorem szOf_177 : szOf Tryz.prog 177 = 1 := by kernel_rfl
@[go_sem] theorem aggT_177 : aggT Tryz.prog 177 = false := by kernel_rfl
@[go_sem] theorem undS_177 : (Tryz.prog.underlying 177).isSome = true := by kernel_rfl
@[go_sem] theorem infS_177 : (Tryz.prog.info? 177).isSome = true := by kernel_rfl
@[go_sem] theorem ifaceT_177 : ifaceT Tryz.prog 177 = false := by kernel_rfl
@[go_sem] theorem ptrT_177 : ptrT Tryz.prog 177 = false := by kernel_rfl
@[go_sem] theorem zeroT_177 : zeroT Tryz.prog 177 = true := by kernel_rfl
@[go_sem] theorem zeroOk_177 : zeroOk Tryz.prog 177 = true := by kernel_rfl
@[go_sem] theorem bytesOf_177 : bytesOf Tryz.prog 177 = 8 := by kernel_rfl
@[go_sem] theorem zeroD_177 : zeroD Tryz.prog 177 = [.v .nilFunc] := by kernel_rfl
@[go_sem] theorem okT_182 : okT Tryz.prog 182 = true := by kernel_rfl
@[go_sem] theorem szOf_182 : szOf Tryz.prog 182 = 1 := by kernel_rfl
@[go_sem] theorem aggT_182 : aggT Tryz.prog 182 = false := by kernel_rfl
@[go_sem] theorem undS_182 : (Tryz.prog.underlying 182).isSome = true := by kernel_rfl
@[go_sem] theorem infS_182 : (Tryz.prog.info? 182).isSome = true := by kernel_rfl
@[go_sem] theorem ifaceT_182 : ifaceT Tryz.prog 182 = false := by kernel_rfl
@[go_sem] theorem ptrT_182 : ptrT Tryz.prog 182 = true := by kernel_rfl
@[go_sem] theorem zeroT_182 : zeroT Tryz.prog 182 = true := by kernel_rfl
@[go_sem] theorem zeroOk_182 : zeroOk Tryz.prog 182 = true := by kernel_rfl
@[go_sem] theorem bytesOf_182 : bytesOf Tryz.prog 182 = 8 := by kernel_rfl
@[go_sem] theorem zeroD_182 : zeroD Tryz.prog 182 = [.v (.pointer none)] := by kernel_rfl
@[go_sem] theorem okT_184 : okT Tryz.prog 184 = true := by kernel_rfl
@[go_sem] theorem szOf_184 : szOf Tryz.prog 184 = 2 := by kernel_rfl
@[go_sem] theorem aggT_184 : aggT Tryz.prog 184 = true := by kernel_rfl
@[go_sem] theorem undS_184 : (Tryz.prog.underlying 184).isSome = true := by kernel_rfl
@[go_sem] theorem infS_184 : (Tryz.prog.info? 184).isSome = true := by kernel_rfl
@[go_sem] theorem ifaceT_184 : ifaceT Tryz.prog 184 = false := by kernel_rfl
@[go_sem] theorem ptrT_184 : ptrT Tryz.prog 184 = false := by kernel_rfl
@[go_sem] theorem zeroT_184 : zeroT Tryz.prog 184 = true := by kernel_rfl
@[go_sem] theorem zeroOk_184 : zeroOk Tryz.prog 184 = true := by kernel_rfl
@[go_sem] theorem bytesOf_184 : bytesOf Tryz.prog 184 = 24 := by kernel_rfl
@[go_sem] theorem zeroD_184 : zeroD Tryz.prog 184 = [.v (.int .i64 0), .v .nilIface] := by kernel_rfl
@[go_sem] theorem fld_184_0 : fld Tryz.prog 184 0 = some (0, 3) := by kernel_rfl
@[go_sem] theorem fld_184_1 : fld Tryz.prog 184 1 = some (1, 35) := by kernel_rfl
@[go_sem] theorem okT_191 : okT Tryz.prog 191 = true := by kernel_rfl
@[go_sem] theorem szOf_191 : szOf Tryz.prog 191 = 1 := by kernel_rfl
@[go_sem] theorem aggT_191 : aggT Tryz.prog 191 = false := by kernel_rfl
@[go_sem] theorem undS_191 : (Tryz.prog.underlying 191).isSome = true := by kernel_rfl
@[go_sem] theorem infS_191 : (Tryz.prog.info? 191).isSome = true := by kernel_rfl
@[go_sem] theorem ifaceT_191 : ifaceT Tryz.prog 191 = false := by kernel_rfl
@[go_sem] theorem ptrT_191 : ptrT Tryz.prog 191 = false := by kernel_rfl
@[go_sem] theorem zeroT_191 : zeroT Tryz.prog 191 = true := by kernel_rfl
@[go_sem] theorem zeroOk_191 : zeroOk Tryz.prog 191 = true := by kernel_rfl
@[go_sem] theorem bytesOf_191 : bytesOf Tryz.prog 191 = 8 := by kernel_rfl
@[go_sem] theorem zeroD_191 : zeroD Tryz.prog 191 = [.v .nilFunc] := by kernel_rfl
theorem mixed : Tryz.prog.follows .mixedOrders = true := by kernel_rfl
end Go.Proofs.YtjjhjhjphhpeiaaGreatDoor

namespace Go.Proofs.YtjjhjhjphhpeiaaGreatDoor
open Go.RowKit

def strD (s : Str) : D := .v (sv s)
def u64D (n : Nat) : D := .v (.int .u64 (n : Int))
mutual
def encS : DSch → D
  | .mk k ws ps => .agg [.v (.int .i64 k), .sl .no (ws.map strD), .sl .no (encSs ps)]
def encSs : List DSch → List D
  | [] => []
  | p :: ps => encS p :: encSs ps
end
mutual
def encV : DVal → D
  | .mk k n s ns is ps => .agg [.v (.int .i64 k), .v (.int .i64 n), strD s, .sl .no (ns.map strD), .sl .no (is.map u64D), .sl .no (encVs ps)]
def encVs : List DVal → List D
  | [] => []
  | p :: ps => encV p :: encVs ps
end
theorem encSs_map : ∀ l : List DSch, encSs l = l.map encS
  | [] => rfl
  | p :: l => by simp [encSs, encSs_map l]
theorem encVs_map : ∀ l : List DVal, encVs l = l.map encV
  | [] => rfl
  | p :: l => by simp [encVs, encVs_map l]
theorem encS_eq (s : DSch) : encS s = .agg [.v (.int .i64 s.kind), .sl .no (s.words.map strD), .sl .no (s.parts.map encS)] := by
  obtain ⟨k, ws, ps⟩ := s
  simp [encS, encSs_map, DSch.kind, DSch.words, DSch.parts]
theorem encV_eq (v : DVal) : encV v = .agg [.v (.int .i64 v.kind), .v (.int .i64 v.n), strD v.s, .sl .no (v.names.map strD), .sl .no (v.ids.map u64D), .sl .no (v.parts.map encV)] := by
  obtain ⟨k, n, s, ns, is, ps⟩ := v
  simp [encV, encVs_map, DVal.kind, DVal.n, DVal.s, DVal.names, DVal.ids, DVal.parts]
theorem closed_strs (l : List Str) : allL (fun _ => False) (l.map strD) := allL_iff.2 fun d hd => by
  obtain ⟨s, _, rfl⟩ := List.mem_map.1 hd
  trivial
theorem closed_u64s (l : List Nat) : allL (fun _ => False) (l.map u64D) := allL_iff.2 fun d hd => by
  obtain ⟨s, _, rfl⟩ := List.mem_map.1 hd
  trivial
mutual
theorem closed_encS : ∀ s : DSch, (encS s).closed
  | .mk k ws ps => by simp only [encS, D.closed, D.all, allL, Own.all]; exact ⟨trivial, ⟨trivial, closed_strs ws⟩, ⟨trivial, closed_encSs ps⟩, trivial⟩
theorem closed_encSs : ∀ l : List DSch, allL (fun _ => False) (encSs l)
  | [] => trivial
  | p :: ps => by simp only [encSs, allL]; exact ⟨closed_encS p, closed_encSs ps⟩
end
mutual
theorem closed_encV : ∀ v : DVal, (encV v).closed
  | .mk k n s ns is ps => by simp only [encV, D.closed, D.all, allL, Own.all, strD]; exact ⟨trivial, trivial, trivial, ⟨trivial, closed_strs ns⟩, ⟨trivial, closed_u64s is⟩, ⟨trivial, closed_encVs ps⟩, trivial⟩
theorem closed_encVs : ∀ l : List DVal, allL (fun _ => False) (encVs l)
  | [] => trivial
  | p :: ps => by simp only [encVs, allL]; exact ⟨closed_encV p, closed_encVs ps⟩
end
theorem frz_strs (l : List Str) : frzL (l.map strD) = l.map strD := by simp [frzL_map, strD, D.frz, Function.comp_def]
theorem frz_u64s (l : List Nat) : frzL (l.map u64D) = l.map u64D := by simp [frzL_map, u64D, D.frz, Function.comp_def]
mutual
theorem frz_encS : ∀ s : DSch, (encS s).frz = encS s
  | .mk k ws ps => by simp only [encS, D.frz, frzL, frz_strs, frz_encSs ps]
theorem frz_encSs : ∀ l : List DSch, frzL (encSs l) = encSs l
  | [] => rfl
  | p :: ps => by simp only [encSs, frzL, frz_encS p, frz_encSs ps]
end
mutual
theorem frz_encV : ∀ v : DVal, (encV v).frz = encV v
  | .mk k n s ns is ps => by simp only [encV, D.frz, frzL, frz_strs, frz_u64s, frz_encVs ps, strD]
theorem frz_encVs : ∀ l : List DVal, frzL (encVs l) = encVs l
  | [] => rfl
  | p :: ps => by simp only [encVs, frzL, frz_encV p, frz_encVs ps]
end
theorem frz_mapV (l : List DVal) : frzL (l.map encV) = l.map encV := by rw [← encVs_map, frz_encVs]
/-! What fits the machine's bounds. -/
mutual
def okS : DSch → Prop
  | .mk k ws ps => I64 k ∧ (∀ s ∈ ws, s.length ≤ maxLen) ∧ ws.length ≤ 140737488351232 ∧ ps.length ≤ 140737488351232 ∧ okSs ps
def okSs : List DSch → Prop
  | [] => True
  | p :: ps => okS p ∧ okSs ps
end
mutual
def okV : DVal → Prop
  | .mk k n s ns is ps => I64 k ∧ I64 n ∧ s.length ≤ maxLen ∧ (∀ s ∈ ns, s.length ≤ maxLen) ∧ ns.length ≤ 140737488351232 ∧ (∀ i ∈ is, U64 (i : Int)) ∧ is.length ≤ 140737488351232 ∧ ps.length ≤ 140737488351232 ∧ okVs ps
def okVs : List DVal → Prop
  | [] => True
  | p :: ps => okV p ∧ okVs ps
end
theorem okSs_iff : ∀ {l : List DSch}, okSs l ↔ ∀ p ∈ l, okS p
  | [] => by simp [okSs]
  | p :: l => by simp [okSs, okSs_iff (l := l)]
theorem okVs_iff : ∀ {l : List DVal}, okVs l ↔ ∀ p ∈ l, okV p
  | [] => by simp [okVs]
  | p :: l => by simp [okVs, okVs_iff (l := l)]
theorem okS_eq (s : DSch) : okS s ↔ I64 s.kind ∧ (∀ x ∈ s.words, x.length ≤ maxLen) ∧ s.words.length ≤ 140737488351232 ∧ s.parts.length ≤ 140737488351232 ∧ ∀ p ∈ s.parts, okS p := by
  obtain ⟨k, ws, ps⟩ := s
  simp only [okS, okSs_iff, DSch.kind, DSch.words, DSch.parts]
theorem okV_eq (v : DVal) : okV v ↔ I64 v.kind ∧ I64 v.n ∧ v.s.length ≤ maxLen ∧ (∀ x ∈ v.names, x.length ≤ maxLen) ∧ v.names.length ≤ 140737488351232 ∧ (∀ i ∈ v.ids, U64 (i : Int)) ∧ v.ids.length ≤ 140737488351232 ∧ v.parts.length ≤ 140737488351232 ∧ ∀ p ∈ v.parts, okV p := by
  obtain ⟨k, n, s, ns, is, ps⟩ := v
  simp only [okV, okVs_iff, DVal.kind, DVal.n, DVal.s, DVal.names, DVal.ids, DVal.parts]
theorem IsVal.ok {w : World} {F : Nat → Prop} {v : DVal} {cs : List Value} (h : IsVal w F v cs) : okV v := by
  induction h with
  | mk h1 h2 h3 h4 h5 h6 h7 h8 h9 h10 h11 hA hC hP h12 h13 ih =>
    simp only [okV, okVs_iff]
    refine ⟨h1, h2, h3, h5, h7, h9, h11, h13, fun p hp => ?_⟩
    obtain ⟨i, hi, rfl⟩ := List.getElem_of_mem hp
    exact ih i _ (List.getElem?_eq_getElem hi)

section
variable {P : Program} {w : World} {η : Names} {X : Nat → Nat → Prop}
theorem rep_scalars {F : Nat → Prop} {α : Type} (g : α → Value) (h1 : ∀ a, (g a).oneCell' = true) (hX : ∀ b i, F b → X b i) {A : Option Addr} {c : Nat} {l : List α} (h : RF w F 1 A l.length (l.map g)) (hc : l.length ≤ c) (hn : l.length ≤ 140737488351232) :
    Rep P w η X (.sl .no (l.map fun a => .v (g a))) (.slice A l.length c) := by
  simp only [Rep]
  refine ⟨A, c, by rw [List.length_map], by rw [List.length_map]; exact hc, by rw [List.length_map]; omega, trivial, fun h0 => ?_⟩
  rw [List.length_map] at h0
  obtain ⟨b, o, e, hb, hr⟩ := h.2 h0
  refine ⟨b, o, 1, e, by omega, RepE.mk fun i d hd => ?_⟩
  rw [List.getElem?_map] at hd
  cases hi : l[i]? with
  | none => rw [hi] at hd; cases hd
  | some a =>
    rw [hi] at hd
    injection hd with hd
    subst hd
    have hcell := hr i (g a) (by rw [List.getElem?_map, hi]; rfl)
    rw [Nat.mul_one]
    exact ⟨by simp only [RepA], fun _ => ⟨rfl, hX _ _ hb, g a, hcell, h1 a, by simp only [Rep]⟩⟩
theorem rep_structs {F : Nat → Prop} {α : Type} (e : α → D) (z : Nat) (hz : 0 < z) (hX : ∀ b i, F b → X b i) {A : Option Addr} {c b o : Nat} {l : List α} {C : Nat → List Value} (hA : 0 < l.length → A = some ⟨b, o, none⟩ ∧ F b)
    (hC : ∀ i a, l[i]? = some a → (C i).length = z ∧ w.rangeAt b (o + i * z) (C i)) (hR : ∀ i a, l[i]? = some a → Rep P w η X (e a) (.agg (C i).toArray)) (hagg : ∀ a, (e a).isAgg = true) (hc : l.length ≤ c) (hn : l.length ≤ 140737488351232) :
    Rep P w η X (.sl .no (l.map e)) (.slice A l.length c) := by
  simp only [Rep]
  refine ⟨A, c, by rw [List.length_map], by rw [List.length_map]; exact hc, by rw [List.length_map]; omega, trivial, fun h0 => ?_⟩
  rw [List.length_map] at h0
  refine ⟨b, o, z, (hA h0).1, hz, RepE.mk fun i d hd => ?_⟩
  rw [List.getElem?_map] at hd
  cases hi : l[i]? with
  | none => rw [hi] at hd; cases hd
  | some a =>
    rw [hi] at hd
    injection hd with hd
    subst hd
    have h1 := hR i a hi
    obtain ⟨h2, h3⟩ := hC i a hi
    cases he : e a with
    | agg ds =>
      rw [he] at h1
      simp only [Rep] at h1
      obtain ⟨vs, h4, h5, h6⟩ := h1
      have : C i = vs := by
        injection h4 with h4
        have := congrArg Array.toList h4
        simpa using this
      rw [this] at h2 h3
      have hlen : ds.length = z := by rw [← h5.length, h2]
      exact ⟨by simp only [RepA]; exact ⟨hlen, RepC.mk h5 h3 (fun j _ => hX _ _ (hA h0).2) h6⟩, fun h => by simp [D.isAgg] at h⟩
    | _ => have := hagg a; rw [he] at this; simp [D.isAgg] at this
theorem encS_agg (s : DSch) : (encS s).isAgg = true := by rw [encS_eq]; rfl
theorem encV_agg (v : DVal) : (encV v).isAgg = true := by rw [encV_eq]; rfl
theorem rep_sch {F : Nat → Prop} (hX : ∀ b i, F b → X b i) {s : DSch} {cs : List Value} (h : IsSch w F s cs) : Rep P w η X (encS s) (.agg cs.toArray) := by
  induction h with
  | mk h1 h2 h3 h4 h5 hA hC hP h6 h7 ih =>
    have r1 := rep_scalars (P := P) (η := η) sv (fun _ => rfl) hX h2 h4 h5
    have r2 := rep_structs (P := P) (η := η) encS 3 (by omega) hX hA hC ih encS_agg h6 h7
    simp only [encS, encSs_map, Rep, RepL]
    refine ⟨_, rfl, ⟨_, _, rfl, rfl, _, _, rfl, r1, _, _, rfl, r2, rfl⟩, by simp [Value.oneCell']⟩
theorem rep_val {F : Nat → Prop} (hX : ∀ b i, F b → X b i) {v : DVal} {cs : List Value} (h : IsVal w F v cs) : Rep P w η X (encV v) (.agg cs.toArray) := by
  induction h with
  | mk h1 h2 h3 h4 h5 h6 h7 h8 h9 h10 h11 hA hC hP h12 h13 ih =>
    have r1 := rep_scalars (P := P) (η := η) sv (fun _ => rfl) hX h4 h6 h7
    have r2 := rep_scalars (P := P) (η := η) uv (fun _ => rfl) hX h8 h10 h11
    have r3 := rep_structs (P := P) (η := η) encV 6 (by omega) hX hA hC ih encV_agg h12 h13
    simp only [encV, encVs_map, strD, Rep, RepL]
    refine ⟨_, rfl, ⟨_, _, rfl, rfl, _, _, rfl, rfl, _, _, rfl, rfl, _, _, rfl, r1, _, _, rfl, r2, _, _, rfl, r3, rfl⟩, by simp [Value.oneCell']⟩
theorem scalars_of_rep {α : Type} (g : α → Value) {own : Own} {l : List α} {y : Value} (h : Rep P w η X (.sl own (l.map fun a => .v (g a))) y) : ∃ A c, y = .slice A l.length c ∧ l.length ≤ c ∧ RF w (· < w.heap.size) 1 A l.length (l.map g) := by
  simp only [Rep] at h
  obtain ⟨A, c, rfl, h1, _, _, h2⟩ := h
  rw [List.length_map] at *
  refine ⟨A, c, rfl, h1, by simp, fun h0 => ?_⟩
  obtain ⟨b, o, z, rfl, hz, hr⟩ := h2 h0
  have hel : ∀ j a, l[j]? = some a → w.cell? ⟨b, o + j, none⟩ = some (g a) := fun j a hj => by
    have := RepE.get j hr (d := .v (g a)) (by rw [List.getElem?_map, hj]; rfl)
    obtain ⟨e1, _, x, e2, _, e3⟩ := this.2 rfl
    simp only [Rep] at e3
    rw [e1, Nat.mul_one] at e2
    rw [e2, e3]
  refine ⟨b, o, rfl, ?_, fun j u hu => ?_⟩
  · have h3 := hel 0 _ (List.getElem?_eq_getElem h0)
    exact World.block_lt_of_cell? w _ h3
  · rw [List.getElem?_map] at hu
    cases hj : l[j]? with
    | none => rw [hj] at hu; cases hu
    | some a =>
      rw [hj] at hu
      injection hu with hu
      rw [← hu]
      exact hel j a hj
theorem structs_of_rep {α : Type} (e : α → D) (hagg : ∀ a, (e a).isAgg = true) {own : Own} {l : List α} {y : Value} {z : Nat} (hw : ∀ a, (e a).width = z) (hz : 0 < z) (h : Rep P w η X (.sl own (l.map e)) y) :
    ∃ A c b o, ∃ C : Nat → List Value, y = .slice A l.length c ∧ l.length ≤ c ∧ (0 < l.length → A = some ⟨b, o, none⟩ ∧ b < w.heap.size) ∧ (∀ i a, l[i]? = some a → (C i).length = z ∧ w.rangeAt b (o + i * z) (C i)) ∧ ∀ i a, l[i]? = some a → Rep P w η X (e a) (.agg (C i).toArray) := by
  simp only [Rep] at h
  obtain ⟨A, c, rfl, h1, _, _, h2⟩ := h
  rw [List.length_map] at *
  rcases Nat.eq_zero_or_pos l.length with h0 | h0
  · have : l = [] := List.eq_nil_of_length_eq_zero h0
    subst this
    exact ⟨A, c, 0, 0, fun _ => [], rfl, h1, fun h => absurd h (by simp), fun i a ha => by simp at ha, fun i a ha => by simp at ha⟩
  obtain ⟨b, o, z', rfl, hz', hr⟩ := h2 h0
  have key : ∀ i, i < l.length → ∃ vs : List Value, vs.length = z ∧ w.rangeAt b (o + i * z) vs ∧ ∀ a, l[i]? = some a → Rep P w η X (e a) (.agg vs.toArray) := fun i hi => by
    have hel := (RepE.get i hr (d := e l[i]) (by rw [List.getElem?_map, List.getElem?_eq_getElem hi]; rfl)).cells
    have hzz : z' = z := by rw [← hel.1, hw]
    subst hzz
    obtain ⟨vs, k1, k2, k3, k4⟩ := hel.2.range
    refine ⟨vs, by rw [k1]; exact hel.1, k2, fun a ha => ?_⟩
    rw [List.getElem?_eq_getElem hi] at ha
    injection ha with ha
    subst ha
    have hg := hagg l[i]
    revert k3 hg
    cases e l[i] with
    | agg ds => intro k3 _; simp only [Rep]; exact ⟨vs, rfl, k3, k4⟩
    | _ => intro _ hg; simp [D.isAgg] at hg
  refine ⟨_, c, b, o, fun i => if hi : i < l.length then Classical.choose (key i hi) else [], rfl, h1, fun _ => ⟨rfl, ?_⟩, fun i a ha => ?_, fun i a ha => ?_⟩
  · have hk := Classical.choose_spec (key 0 h0)
    have := hk.2.1 0 (Classical.choose (key 0 h0))[0] (List.getElem?_eq_getElem (by rw [hk.1]; exact hz))
    exact World.block_lt_of_cell? w _ this
  · have hi : i < l.length := (List.getElem?_eq_some_iff.1 ha).1
    dsimp only
    rw [dif_pos hi]
    have hk := Classical.choose_spec (key i hi)
    exact ⟨hk.1, hk.2.1⟩
  · have hi : i < l.length := (List.getElem?_eq_some_iff.1 ha).1
    dsimp only
    rw [dif_pos hi]
    exact (Classical.choose_spec (key i hi)).2.2 a ha
theorem width_encS (s : DSch) : (encS s).width = 3 := by rw [encS_eq]; rfl
theorem width_encV (v : DVal) : (encV v).width = 6 := by rw [encV_eq]; rfl
theorem sch_of_rep : ∀ (n : Nat) (s : DSch), s.depth ≤ n → okS s → ∀ {y : Value}, Rep P w η X (encS s) y → ∃ cs : List Value, y = .agg cs.toArray ∧ IsSch w (· < w.heap.size) s cs
  | 0, s, h, _, _, _ => by have := s.depth_pos; omega
  | n + 1, s, hd, hok, y, h => by
    have hdp : ∀ p ∈ s.parts, p.depth < s.depth := fun p hp => DSch.depth_part hp
    obtain ⟨o1, o2, o3, o4, o5⟩ := (okS_eq s).1 hok
    rw [encS_eq] at h
    simp only [Rep, RepL] at h
    obtain ⟨vs, rfl, ⟨_, _, rfl, rfl, _, _, rfl, h2, _, _, rfl, h3, rfl⟩, _⟩ := h
    have h2' := scalars_of_rep (P := P) (w := w) (η := η) (X := X) sv (own := .no) (l := s.words) (by simp only [Rep]; exact h2)
    have h3' := structs_of_rep (P := P) (w := w) (η := η) (X := X) encS encS_agg (own := .no) (l := s.parts) width_encS (by omega) (by simp only [Rep]; exact h3)
    obtain ⟨A1, c1, rfl, g1, g2⟩ := h2'
    obtain ⟨A2, c2, b, o, C, rfl, k1, k2, k3, k4⟩ := h3'
    refine ⟨_, rfl, ?_⟩
    obtain ⟨k, ws, ps⟩ := s
    refine .mk o1 g2 o2 g1 o3 k2 k3 (fun i p hp => ?_) k1 o4
    obtain ⟨cs, e1, e2⟩ := sch_of_rep n p (by have := hdp p (List.mem_of_getElem? hp); omega) (o5 p (List.mem_of_getElem? hp)) (k4 i p hp)
    have : C i = cs := by
      injection e1 with e1
      have := congrArg Array.toList e1
      simpa using this
    rw [this]
    exact e2
theorem val_of_rep : ∀ (n : Nat) (s : DVal), s.depth ≤ n → okV s → ∀ {y : Value}, Rep P w η X (encV s) y → ∃ cs : List Value, y = .agg cs.toArray ∧ IsVal w (· < w.heap.size) s cs
  | 0, s, h, _, _, _ => by have := s.depth_pos; omega
  | n + 1, s, hd, hok, y, h => by
    have hdp : ∀ p ∈ s.parts, p.depth < s.depth := fun p hp => DVal.depth_part hp
    obtain ⟨o1, o2, o3, o4, o5, o6, o7, o8, o9⟩ := (okV_eq s).1 hok
    rw [encV_eq] at h
    simp only [strD, Rep, RepL] at h
    obtain ⟨vs, rfl, ⟨_, _, rfl, rfl, _, _, rfl, rfl, _, _, rfl, rfl, _, _, rfl, h2, _, _, rfl, h4, _, _, rfl, h3, rfl⟩, _⟩ := h
    have h2' := scalars_of_rep (P := P) (w := w) (η := η) (X := X) sv (own := .no) (l := s.names) (by simp only [Rep]; exact h2)
    have h4' := scalars_of_rep (P := P) (w := w) (η := η) (X := X) uv (own := .no) (l := s.ids) (by simp only [Rep]; exact h4)
    have h3' := structs_of_rep (P := P) (w := w) (η := η) (X := X) encV encV_agg (own := .no) (l := s.parts) width_encV (by omega) (by simp only [Rep]; exact h3)
    obtain ⟨A1, c1, rfl, g1, g2⟩ := h2'
    obtain ⟨A3, c3, rfl, g3, g4⟩ := h4'
    obtain ⟨A2, c2, b, o, C, rfl, k1, k2, k3, k4⟩ := h3'
    refine ⟨_, rfl, ?_⟩
    obtain ⟨k, n', s', ns, is, ps⟩ := s
    refine .mk o1 o2 o3 g2 o4 g1 o5 g4 o6 g3 o7 k2 k3 (fun i p hp => ?_) k1 o8
    obtain ⟨cs, e1, e2⟩ := val_of_rep n p (by have := hdp p (List.mem_of_getElem? hp); omega) (o9 p (List.mem_of_getElem? hp)) (k4 i p hp)
    have : C i = cs := by
      injection e1 with e1
      have := congrArg Array.toList e1
      simpa using this
    rw [this]
    exact e2
end
/-! ### Over memory, and over trees -/
section
variable {P : Program} {base : Nat} {S : St} {η : Names} {w : World}
theorem goes_below (h : Mem P base S η w) {w' : World} (hb : Below w.heap.size w w') : Goes P base S η w S η w' := by
  have K : Keep (fun _ => True) w η (Fix P S η) w' η (Fix P S η) := ⟨hb.size, fun b i hlt hx => ⟨hx, hb.cell (p := ⟨b, i, none⟩) hlt⟩, fun _ _ _ hx => hx, fun b cur _ hx => ⟨cur, by rw [hb.block b ((Array.getElem?_eq_some_iff.1 hx).1)]; exact hx, rfl⟩⟩
  refine ⟨⟨Nat.le_trans h.base_ hb.size, h.dead, h.fresh, h.live, h.inj, fun k b hk => ⟨(h.in_ k b hk).1, Nat.lt_of_lt_of_le (h.in_ k b hk).2 hb.size⟩, fun k t cs b h1 h2 => ?_, fun k e n b h1 h2 => ?_, h.glob.below (hb.mono h.base_)⟩, K, hb.mono h.base_⟩
  · obtain ⟨vs, k1, k2, k3⟩ := h.box k t cs b h1 h2
    exact ⟨vs, by rw [hb.block b (h.in_ k b h2).2]; exact k1, RepL.keep K (allL_true _) k2, k3⟩
  · obtain ⟨cur, k1, k2⟩ := h.row k e n b h1 h2
    exact ⟨cur, by rw [hb.block b (h.in_ k b h2).2]; exact k1, k2⟩
theorem dpure_of_gives {g : FuncId} {args : List D} {v : Value} (hent : ∀ vs w, (callFunc g vs).run P w = .ok (.enter g vs) w) (h : ∀ (w : World) (η : Names) (X : Nat → Nat → Prop) (vs : List Value), RepL P w η X args vs → Calls P g vs.toArray w (Gives v w)) : DPure P g args (.v v) :=
  fun _ _ η w vs hM hr => .inl ⟨hent _ _, (h w η _ vs hr).mono fun _ _ ⟨he, hb⟩ => ⟨.v v, _, η, v, ⟨rfl, rfl⟩, he, by simp only [Rep], goes_below hM hb⟩⟩
end
theorem empty_toList : (⟨#[]⟩ : ByteArray).toList = [] := by rw [Go.Lib.toList_data]
theorem cells_encV (v : DVal) : (encV v).cells.length = 6 := width_encV v
theorem cells_encS (s : DSch) : (encS s).cells.length = 3 := width_encS s
theorem agg_encV (v : DVal) : D.agg (encV v).cells = encV v := by rw [encV_eq]; rfl
theorem agg_encS (s : DSch) : D.agg (encS s).cells = encS s := by rw [encS_eq]; rfl
theorem take_encV (v : DVal) : (encV v).cells.take 6 = (encV v).cells := List.take_of_length_le (by rw [cells_encV]; omega)
theorem take_encS (s : DSch) : (encS s).cells.take 3 = (encS s).cells := List.take_of_length_le (by rw [cells_encS]; omega)
theorem okCell_encV (v : DVal) : (encV v).okCell = true := by rw [encV_eq]; rfl
theorem okCell_encS (s : DSch) : (encS s).okCell = true := by rw [encS_eq]; rfl
theorem cut_guard {P : Program} {x : D} {want : Bool} {f : Fm} {S : St} {ty : TypeId} {op : Op} {ops : Array Oper} {R J : Fm → St → Prop} {r : List Oper} {dst : Option Tmp} (J' : Fm → St → Prop) (hJ : J = J') (h : ∀ f S, J f S → R f S)
    (k : dguard x want (dopF P f S ty op (dnext P ops J r f dst)) (dskip P ops J r f dst S)) : dguard x want (dopF P f S ty op (dnext P ops R r f dst)) (dskip P ops R r f dst S) := by
  cases x with
  | v u => cases u with
    | bool b => exact ⟨fun e => dop_mono (fun d S' hd => dops_mono h r hd) (k.1 e), fun e => dops_mono h r (k.2 e)⟩
    | _ => exact k
  | tup l => cases l with
    | nil => exact dops_mono h r k
    | cons d l => exact k
  | _ => exact k
attribute [go_sem] empty_toList strB_size cells_encV cells_encS agg_encV agg_encS take_encV take_encS okCell_encV okCell_encS strD u64D
end Go.Proofs.YtjjhjhjphhpeiaaGreatDoor

namespace Go.Proofs.YtjjhjhjphhpeiaaGreatDoor
open Go.RowKit
def bad1 (kd num : Int) (xl nn ni : Nat) : Prop := kd < 1 ∨ 6 < kd ∨ (kd ≠ 1 ∧ kd ≠ 2 ∧ num ≠ 0) ∨ (kd ≠ 3 ∧ kd ≠ 4 ∧ 0 < xl) ∨ (kd ≠ 5 ∧ 0 < nn) ∨ (kd ≠ 6 ∧ 0 < ni)
instance (kd num : Int) (xl nn ni : Nat) : Decidable (bad1 kd num xl nn ni) := by unfold bad1; exact inferInstance
def bad2 (kd num : Int) (xl nn ni np : Nat) (bn : Bool) : Prop := (kd = 1 ∧ num ≠ 0 ∧ num ≠ 1) ∨ (kd = 3 ∧ 64 < xl) ∨ (kd = 4 ∧ bn = false) ∨ 8 < nn ∨ 12 < ni ∨ np ≠ nn + ni
instance (kd num : Int) (xl nn ni np : Nat) (bn : Bool) : Decidable (bad2 kd num xl nn ni np bn) := by unfold bad2; exact inferInstance
def hereV (v : DVal) : Bool := (!decide (bad1 v.kind v.n v.s.length v.names.length v.ids.length) && !decide (bad2 v.kind v.n v.s.length v.names.length v.ids.length v.parts.length (nameB v.s))) && ((List.range v.names.length).all (riseOk v.names) && (List.range v.ids.length).all (idOk v.ids))
def soundV : Nat → DVal → Bool
  | 0, _ => true
  | k + 1, v => hereV v && v.parts.all (soundV k)
def soundSt (v : DVal) (S : St) : St := S.add (.box 29 [.v (.int .i64 v.kind), .v (.int .i64 v.n), strD v.s, .sl .no (v.names.map strD), .sl .no (v.ids.map u64D), .sl .no (v.parts.map encV)])
theorem refName_d (s : Str) (hs : s.length ≤ maxLen) : DPure Tryz.prog 68 [.v (sv s)] (.v (.bool (nameB s))) :=
  dpure_of_gives (fun _ _ => by kernel_rfl) fun w η X vs hr => by
    simp only [RepL, Rep] at hr
    obtain ⟨x, xs, rfl, rfl, rfl⟩ := hr
    exact (refName_calls s w hs).mono fun e w' ⟨he, hw⟩ => ⟨he, hw ▸ Below.refl _ _⟩
theorem all_not {l : Nat} {p : Nat → Bool} {i : Nat} (h : i < l) (hp : p i = false) : (List.range l).all p = false := List.all_eq_false.2 ⟨i, List.mem_range.2 h, by simp [hp]⟩
theorem all_of {l : Nat} {p : Nat → Bool} (h : ∀ j, j < l → p j = true) : (List.range l).all p = true := List.all_eq_true.2 fun j hj => h j (List.mem_range.1 hj)
theorem getD_at {α : Type} {l : List α} {i : Nat} {d : α} (h : i < l.length) : l.getD i d = l[i] := by simp [List.getD, h]
theorem leq_not (x y : Str) : (Op.bytesLess x y || x == y) = !sLt y x := by
  have h1 := sLt_iff x y
  have h2 := sLt_iff y x
  rw [show Op.bytesLess x y = sLt x y from rfl, h1, h2, Bool.eq_iff_iff]
  simp only [Bool.or_eq_true, decide_eq_true_eq, beq_iff_eq, Bool.not_eq_true', decide_eq_false_iff_not, List.not_lt]
  constructor
  · rintro (h | h)
    · exact List.le_of_lt h
    · rw [h]; exact List.le_refl y
  · intro h
    by_cases e : x = y
    · exact .inr e
    · exact .inl (Classical.byContradiction fun hn => e (List.le_antisymm h (List.not_lt.1 hn)))
structure LNames (v : DVal) (S : St) (f : Fm) (T : St) (i : Nat) : Prop where
  st : T = soundSt v S
  s1 : f 1 = .loc S.next 0
  s4 : f 4 = .v (.int .i64 i)
  le : i ≤ v.names.length
  ok : ∀ j, j < i → riseOk v.names j = true
def LNamesE (v : DVal) (S : St) (f : Fm) (T : St) : Prop := ∃ i, LNames v S f T i
structure JNames (v : DVal) (S : St) (f : Fm) (T : St) : Prop where
  st : T = soundSt v S
  s1 : f 1 = .loc S.next 0
  ok : (List.range v.names.length).all (riseOk v.names) = true
structure LIds (v : DVal) (S : St) (f : Fm) (T : St) (i : Nat) : Prop where
  st : T = soundSt v S
  s1 : f 1 = .loc S.next 0
  s5 : f 5 = .v (.int .i64 i)
  le : i ≤ v.ids.length
  ok : ∀ j, j < i → idOk v.ids j = true
def LIdsE (v : DVal) (S : St) (f : Fm) (T : St) : Prop := ∃ i, LIds v S f T i
structure LIn (v : DVal) (S : St) (i : Nat) (f : Fm) (T : St) (j : Nat) : Prop where
  st : T = soundSt v S
  s1 : f 1 = .loc S.next 0
  s5 : f 5 = .v (.int .i64 i)
  s6 : f 6 = .v (.int .i64 j)
  le : j ≤ i
  no : ∀ r, r < j → v.ids.getD r 0 ≠ v.ids.getD i 0
def LInE (v : DVal) (S : St) (i : Nat) (f : Fm) (T : St) : Prop := ∃ j, LIn v S i f T j
structure JIds (v : DVal) (S : St) (f : Fm) (T : St) : Prop where
  st : T = soundSt v S
  s1 : f 1 = .loc S.next 0
  ok : (List.range v.ids.length).all (idOk v.ids) = true
structure LParts (v : DVal) (k : Nat) (S : St) (f : Fm) (T : St) (i : Nat) : Prop where
  st : T = soundSt v S
  s1 : f 1 = .loc S.next 0
  s7 : f 7 = .v (.int .i64 i)
  le : i ≤ v.parts.length
  ok : ∀ j (h : j < v.parts.length), j < i → soundV k v.parts[j] = true
def LPartsE (v : DVal) (k : Nat) (S : St) (f : Fm) (T : St) : Prop := ∃ i, LParts v k S f T i
theorem mem_take_iff (l : List Nat) (i : Nat) (x : Nat) (hi : i ≤ l.length) : x ∈ l.take i ↔ ∃ r, r < i ∧ l.getD r 0 = x := by
  rw [List.mem_take_iff_getElem]
  constructor
  · rintro ⟨r, hr, e⟩
    exact ⟨r, by omega, by rw [getD_at (by omega)]; exact e⟩
  · rintro ⟨r, hr, e⟩
    exact ⟨r, by omega, by rw [getD_at (by omega)] at e; exact e⟩
structure Cut2 (v : DVal) (S : St) (f : Fm) (T : St) : Prop where
  st : T = soundSt v S
  s1 : f 1 = .loc S.next 0
  s118 : f 118 = .v (.bool (decide (bad2 v.kind v.n v.s.length v.names.length v.ids.length v.parts.length (nameB v.s))))
structure Cut1 (v : DVal) (S : St) (f : Fm) (T : St) : Prop where
  st : T = soundSt v S
  s1 : f 1 = .loc S.next 0
  s3 : f 3 = .v (.int .i64 v.kind)
  s61 : f 61 = .v (.bool (decide (bad1 v.kind v.n v.s.length v.names.length v.ids.length)))
set_option maxRecDepth 200000 in
set_option maxHeartbeats 8000000 in
theorem refSoundV_d (k : Nat) : ∀ (v : DVal), v.depth ≤ k → okV v → DPure Tryz.prog 74 [encV v] (.v (.bool (soundV k v))) := by
  induction k with
  | zero => intro v h; have := v.depth_pos; omega
  | succ k ih =>
    intro v hk hok
    refine dpure_of_dwp mixed Tryz.func74 rfl (fun _ _ => by kernel_rfl) (rs := [.tmp 2]) rfl (by kernel_rfl) trivial (fun S hS => ?_)
    simp only [go_sem, add_ob, set_ob, encV_eq v]
    refine cut_guard (Cut1 v S) rfl ?_ ?_
    · intro f T h
      obtain rfl := h.st
      cases hb1 : decide (bad1 v.kind v.n v.s.length v.names.length v.ids.length) with
      | true =>
        have hr : soundV (k + 1) v = false := by simp only [soundV, hereV, hb1]; rfl
        simp only [go_sem, add_ob, set_ob, h.s61, hb1]
        exact ⟨by rw [hr]; rfl, (St.Sub.refl S).add hS _⟩
      | false =>
        have hgood : ¬ bad1 v.kind v.n v.s.length v.names.length v.ids.length := of_decide_eq_false hb1
        simp only [go_sem, add_ob, set_ob, h.s61, h.s1, h.s3, hb1, soundSt]
        obtain ⟨o1, o2, o3, o4, o5, o6, o7, o8, o9⟩ := (okV_eq v).1 hok
        refine cut_guard (Cut2 v S) rfl ?_ ?_
        · intro f2 T2 h2
          obtain rfl := h2.st
          cases hb2 : decide (bad2 v.kind v.n v.s.length v.names.length v.ids.length v.parts.length (nameB v.s)) with
          | true =>
            have hr : soundV (k + 1) v = false := by simp only [soundV, hereV, hb1, hb2]; rfl
            simp only [go_sem, add_ob, set_ob, h2.s118, hb2]
            exact ⟨by rw [hr]; rfl, (St.Sub.refl S).add hS _⟩
          | false =>
            have hok2 : ¬ bad2 v.kind v.n v.s.length v.names.length v.ids.length v.parts.length (nameB v.s) := of_decide_eq_false hb2
            simp only [go_sem, add_ob, set_ob, h2.s118, h2.s1, hb2, soundSt]
            refine loop_cut (JNames v S) ?_ ?_
            · refine dloop_mk (LNamesE v S) (fun f _ => v.names.length - slotN (f 4)) ⟨0, ⟨rfl, by simp only [go_sem, add_ob, set_ob, h2.s1], by simp only [go_sem, add_ob, set_ob]; rfl, by omega, fun j hj => by omega⟩⟩ ?_
              rintro g T ⟨i, q⟩
              obtain rfl := q.st
              by_cases hlt : i < v.names.length
              · have b1 : decide ((i : Int) < (v.names.length : Int)) = true := by simp; omega
                have hx := getD_map strD v.names i hlt
                have c1 : (0 : Int) ≤ (i : Int) := by omega
                have c2 : (i : Int) < (v.names.length : Int) := by omega
                simp only [go_sem, add_ob, set_ob, q.s1, q.s4, b1, soundSt]
                refine ddraw_mk 25 (by kernel_rfl) ?_
                simp only [go_sem, add_ob, set_ob, q.s1, q.s4, hx, c1, c2]
                refine dqgo_mk (refName_d v.names[i] (o4 _ (List.getElem_mem hlt))) ?_
                have w1 : IntKind.i64.wrap ((i : Int) + 1) = (i : Int) + 1 := IntWalk.i64_in _ ⟨by omega, by omega⟩
                have bad : riseOk v.names i = false → soundV (k + 1) v = false := fun hh => by
                  simp only [soundV, hereV, all_not (p := riseOk v.names) hlt hh, Bool.false_and, Bool.and_false]
                have hri : riseOk v.names i = (nameB v.names[i] && (decide (i = 0) || sLt (v.names.getD (i - 1) []) v.names[i])) := by rw [riseOk, getD_at hlt]
                have next : riseOk v.names i = true → ∀ j, j < i + 1 → riseOk v.names j = true := fun hh j hj => by
                  by_cases e : j = i
                  · rw [e]; exact hh
                  · exact q.ok j (by omega)
                cases hn : nameB v.names[i] with
                | false =>
                  simp only [go_sem, add_ob, set_ob, q.s1, q.s4, hx, c1, c2, hn]
                  exact ⟨by rw [bad (by rw [hri, hn]; rfl)]; rfl, (St.Sub.refl S).add hS _⟩
                | true =>
                  by_cases hi0 : i = 0
                  · have b3 : decide ((0 : Int) < (i : Int)) = false := by simp [hi0]
                    simp only [go_sem, add_ob, set_ob, q.s1, q.s4, hx, c1, c2, hn, b3, w1]
                    exact round_end ⟨i + 1, ⟨rfl, by simp only [go_sem, add_ob, set_ob, q.s1], by simp only [go_sem, add_ob, set_ob]; rfl, by omega, next (by rw [hri, hn, decide_eq_true hi0]; rfl)⟩⟩ (by simp only [go_sem, add_ob, set_ob]; omega)
                  · have b3 : decide ((0 : Int) < (i : Int)) = true := by simp; omega
                    have w2 : IntKind.i64.wrap ((i : Int) - 1) = (i : Int) - 1 := IntWalk.i64_in _ ⟨by omega, by omega⟩
                    have n2 : ((i : Int) - 1).toNat = i - 1 := by omega
                    have hx2 := getD_map strD v.names (i - 1) (by omega)
                    have hx3 : v.names.getD (i - 1) [] = v.names[i - 1] := getD_at (by omega)
                    have c3 : (0 : Int) ≤ (i : Int) - 1 := by omega
                    have c4 : (i : Int) - 1 < (v.names.length : Int) := by omega
                    simp only [go_sem, add_ob, set_ob, q.s1, q.s4, hx, c1, c2, hn, b3, w1, w2, n2, hx2, c3, c4, leq_not]
                    cases hs : sLt v.names[i - 1] v.names[i] with
                    | false =>
                      simp only [go_sem, add_ob, set_ob, hs]
                      exact ⟨by rw [bad (by rw [hri, hn, hx3, hs, decide_eq_false hi0]; rfl)]; rfl, (St.Sub.refl S).add hS _⟩
                    | true =>
                      simp only [go_sem, add_ob, set_ob, hs, q.s1, q.s4, w1]
                      exact round_end ⟨i + 1, ⟨rfl, by simp only [go_sem, add_ob, set_ob, q.s1], by simp only [go_sem, add_ob, set_ob]; rfl, by omega, next (by rw [hri, hn, hx3, hs, Bool.or_true]; rfl)⟩⟩ (by simp only [go_sem, add_ob, set_ob]; omega)
              · have b1 : decide ((i : Int) < (v.names.length : Int)) = false := by simp; omega
                simp only [go_sem, add_ob, set_ob, q.s1, q.s4, b1, soundSt]
                exact ⟨rfl, by simp only [go_sem, add_ob, set_ob, q.s1], all_of fun j hj => q.ok j (by omega)⟩
            · intro f3 T3 h3
              obtain rfl := h3.st
              simp only [go_sem, add_ob, set_ob, h3.s1, soundSt]
              refine loop_cut (JIds v S) ?_ ?_
              · refine dloop_mk (LIdsE v S) (fun f _ => v.ids.length - slotN (f 5)) ⟨0, ⟨rfl, by simp only [go_sem, add_ob, set_ob, h3.s1], by simp only [go_sem, add_ob, set_ob]; rfl, by omega, fun j hj => by omega⟩⟩ ?_
                rintro g T ⟨i, q⟩
                obtain rfl := q.st
                by_cases hlt : i < v.ids.length
                · have b1 : decide ((i : Int) < (v.ids.length : Int)) = true := by simp; omega
                  have hx := getD_map u64D v.ids i hlt
                  have c1 : (0 : Int) ≤ (i : Int) := by omega
                  have c2 : (i : Int) < (v.ids.length : Int) := by omega
                  have w1 : IntKind.i64.wrap ((i : Int) + 1) = (i : Int) + 1 := IntWalk.i64_in _ ⟨by omega, by omega⟩
                  have bad : idOk v.ids i = false → soundV (k + 1) v = false := fun hh => by
                    simp only [soundV, hereV, all_not (p := idOk v.ids) hlt hh, Bool.false_and, Bool.and_false]
                  simp only [go_sem, add_ob, set_ob, q.s1, q.s5, b1, soundSt]
                  refine loop_cut (LIn v S i · · i) ?_ ?_
                  · refine dloop_mk (LInE v S i) (fun f _ => i - slotN (f 6)) ⟨0, ⟨rfl, by simp only [go_sem, add_ob, set_ob, q.s1], by simp only [go_sem, add_ob, set_ob, q.s5], by simp only [go_sem, add_ob, set_ob]; rfl, by omega, fun j hj => by omega⟩⟩ ?_
                    rintro g2 T2 ⟨j, p⟩
                    obtain rfl := p.st
                    by_cases hjl : j < i
                    · have b2 : decide ((j : Int) < (i : Int)) = true := by simp; omega
                      have hx2 := getD_map u64D v.ids j (by omega)
                      have c3 : (0 : Int) ≤ (j : Int) := by omega
                      have c4 : (j : Int) < (v.ids.length : Int) := by omega
                      have w2 : IntKind.i64.wrap ((j : Int) + 1) = (j : Int) + 1 := IntWalk.i64_in _ ⟨by omega, by omega⟩
                      simp only [go_sem, add_ob, set_ob, p.s1, p.s5, p.s6, b2, soundSt]
                      refine ddraw_mk 11 (by kernel_rfl) ?_
                      simp only [go_sem, add_ob, set_ob, p.s1, p.s5, p.s6, hx, hx2, c1, c2, c3, c4]
                      by_cases he : v.ids[i] = v.ids[j]
                      · have b3 : ((v.ids[i] : Int) == (v.ids[j] : Int)) = true := by simp [he]
                        simp only [go_sem, add_ob, set_ob, b3]
                        have hm : v.ids.getD i 0 ∈ v.ids.take i := (mem_take_iff _ _ _ (by omega)).2 ⟨j, hjl, by rw [getD_at (by omega), getD_at hlt, he]⟩
                        have hbad : idOk v.ids i = false := by
                          show (!decide (v.ids.getD i 0 = 0) && !decide (v.ids.getD i 0 ∈ v.ids.take i)) = false
                          rw [decide_eq_true hm, Bool.not_true, Bool.and_false]
                        exact ⟨by rw [bad hbad]; rfl, (St.Sub.refl S).add hS _⟩
                      · have b3 : ((v.ids[i] : Int) == (v.ids[j] : Int)) = false := by simp; omega
                        simp only [go_sem, add_ob, set_ob, b3, p.s6, w2]
                        exact round_end ⟨j + 1, ⟨rfl, by simp only [go_sem, add_ob, set_ob, p.s1], by simp only [go_sem, add_ob, set_ob, p.s5], by simp only [go_sem, add_ob, set_ob]; rfl, by omega, fun r hr => by
                          by_cases e : r = j
                          · subst e; rw [getD_at (by omega), getD_at hlt]; exact fun h => he h.symm
                          · exact p.no r (by omega)⟩⟩ (by simp only [go_sem, add_ob, set_ob, p.s6]; omega)
                    · have b2 : decide ((j : Int) < (i : Int)) = false := by simp; omega
                      simp only [go_sem, add_ob, set_ob, p.s1, p.s5, p.s6, b2, soundSt]
                      have : j = i := by have := p.le; omega
                      subst this
                      exact ⟨rfl, by simp only [go_sem, add_ob, set_ob, p.s1], by simp only [go_sem, add_ob, set_ob, p.s5], by simp only [go_sem, add_ob, set_ob, p.s6], Nat.le_refl _, p.no⟩
                  · intro f4 T4 h4
                    obtain rfl := h4.st
                    simp only [go_sem, add_ob, set_ob, h4.s1, h4.s5, hx, c1, c2, soundSt]
                    by_cases hz : v.ids[i] = 0
                    · have b3 : ((v.ids[i] : Int) == 0) = true := by simp [hz]
                      simp only [go_sem, add_ob, set_ob, b3, c1, c2, true_and]
                      have hbad : idOk v.ids i = false := by
                        show (!decide (v.ids.getD i 0 = 0) && !decide (v.ids.getD i 0 ∈ v.ids.take i)) = false
                        rw [decide_eq_true (show v.ids.getD i 0 = 0 by rw [getD_at hlt]; exact hz)]; rfl
                      exact ⟨by rw [bad hbad]; rfl, (St.Sub.refl S).add hS _⟩
                    · have b3 : ((v.ids[i] : Int) == 0) = false := by simp; omega
                      simp only [go_sem, add_ob, set_ob, b3, h4.s5, w1, c1, c2]
                      have hi : idOk v.ids i = true := by
                        have hm : ¬ v.ids.getD i 0 ∈ v.ids.take i := fun hm => by
                          obtain ⟨r, hr, e⟩ := (mem_take_iff _ _ _ (by omega)).1 hm
                          exact h4.no r hr e
                        show (!decide (v.ids.getD i 0 = 0) && !decide (v.ids.getD i 0 ∈ v.ids.take i)) = true
                        rw [decide_eq_false hm, decide_eq_false (show ¬ v.ids.getD i 0 = 0 by rw [getD_at hlt]; exact hz)]; rfl
                      exact round_end ⟨i + 1, ⟨rfl, by simp only [go_sem, add_ob, set_ob, h4.s1], by simp only [go_sem, add_ob, set_ob]; rfl, by omega, fun j hj => by
                        by_cases e : j = i
                        · rw [e]; exact hi
                        · exact q.ok j (by omega)⟩⟩ (by simp only [go_sem, add_ob, set_ob, q.s5]; omega)
                · have b1 : decide ((i : Int) < (v.ids.length : Int)) = false := by simp; omega
                  simp only [go_sem, add_ob, set_ob, q.s1, q.s5, b1, soundSt]
                  exact ⟨rfl, by simp only [go_sem, add_ob, set_ob, q.s1], all_of fun j hj => q.ok j (by omega)⟩
              · intro f5 T5 h5
                obtain rfl := h5.st
                simp only [go_sem, add_ob, set_ob, h5.s1, soundSt]
                have hhere : hereV v = true := by simp only [hereV, hb1, hb2, h3.ok, h5.ok]; rfl
                refine dloop_mk (LPartsE v k S) (fun f _ => v.parts.length - slotN (f 7)) ⟨0, ⟨rfl, by simp only [go_sem, add_ob, set_ob, h5.s1], by simp only [go_sem, add_ob, set_ob]; rfl, by omega, fun j _ hj => by omega⟩⟩ ?_
                rintro g T ⟨i, q⟩
                obtain rfl := q.st
                by_cases hlt : i < v.parts.length
                · have b1 : decide ((i : Int) < (v.parts.length : Int)) = true := by simp; omega
                  have hx := getD_map encV v.parts i hlt
                  have c1 : (0 : Int) ≤ (i : Int) := by omega
                  have c2 : (i : Int) < (v.parts.length : Int) := by omega
                  have w1 : IntKind.i64.wrap ((i : Int) + 1) = (i : Int) + 1 := IntWalk.i64_in _ ⟨by omega, by omega⟩
                  simp only [go_sem, add_ob, set_ob, q.s1, q.s7, b1, hx, c1, c2, soundSt]
                  have hd := DVal.depth_part (List.getElem_mem hlt)
                  refine DCalls.of_pure (ih v.parts[i] (by omega) (o9 _ (List.getElem_mem hlt))) ?_
                  cases hs : soundV k v.parts[i] with
                  | false =>
                    simp only [go_sem, add_ob, set_ob, hs]
                    refine ⟨?_, (St.Sub.refl S).add hS _⟩
                    rw [show soundV (k + 1) v = false by simp only [soundV, hhere, Bool.true_and]; exact List.all_eq_false.2 ⟨_, List.getElem_mem hlt, by rw [hs]; simp⟩]
                    rfl
                  | true =>
                    simp only [go_sem, add_ob, set_ob, hs, q.s7, w1]
                    exact round_end ⟨i + 1, ⟨rfl, by simp only [go_sem, add_ob, set_ob, q.s1], by simp only [go_sem, add_ob, set_ob]; rfl, by omega, fun j hj hji => by
                      by_cases e : j = i
                      · subst e; exact hs
                      · exact q.ok j hj (by omega)⟩⟩ (by simp only [go_sem, add_ob, set_ob]; omega)
                · have b1 : decide ((i : Int) < (v.parts.length : Int)) = false := by simp; omega
                  simp only [go_sem, add_ob, set_ob, q.s1, q.s7, b1, soundSt]
                  refine ⟨?_, (St.Sub.refl S).add hS _⟩
                  rw [show soundV (k + 1) v = true by
                    simp only [soundV, hhere, Bool.true_and]
                    exact List.all_eq_true.2 fun p hp => by
                      obtain ⟨j, hj, rfl⟩ := List.getElem_of_mem hp
                      exact q.ok j hj (by omega)]
                  rfl
        · have hsl : v.s.length ≤ maxLen := o3
          have hwr : IntKind.i64.wrap ((v.names.length : Int) + (v.ids.length : Int)) = (v.names.length : Int) + (v.ids.length : Int) := IntWalk.i64_in _ ⟨by omega, by omega⟩
          repeat' first | (refine DCalls.of_pure (refName_d v.s hsl) ?_; simp only [go_sem, add_ob, set_ob, h.s1, h.s3, hwr]) | (refine dg_mk (fun hb => ?_) (fun hb => ?_) <;> (simp only [go_sem, add_ob, set_ob, hb, h.s1, h.s3, hwr]; simp at hb))
          all_goals refine ⟨rfl, by simp only [go_sem, add_ob, set_ob, h.s1], ?_⟩
          all_goals simp only [go_sem, add_ob, set_ob]
          all_goals
            congr 2
            rw [Bool.eq_iff_iff]
            simp only [decide_eq_true_eq, Bool.false_eq_true, false_iff, true_iff, bne_iff_ne, Bool.not_eq_true'] at *
            simp only [bad2, ← List.length_eq_zero_iff] at *
            cases hnb : nameB v.s <;> simp only [hnb, Bool.true_eq_false, Bool.false_eq_true, and_true, and_false, false_or, not_true_eq_false, not_false_eq_true] at * <;> first | done | omega
    · repeat' (refine dg_mk (fun hb => ?_) (fun hb => ?_) <;> (simp only [go_sem, add_ob, set_ob, hb]; simp at hb))
      all_goals refine ⟨rfl, by simp only [go_sem, add_ob, set_ob], by simp only [go_sem, add_ob, set_ob], ?_⟩
      all_goals simp only [go_sem, add_ob, set_ob]
      all_goals
        congr 2
        rw [Bool.eq_iff_iff]
        simp only [decide_eq_true_eq, Bool.false_eq_true, false_iff, true_iff] at *
        simp only [bad1, ← List.length_eq_zero_iff] at *
        omega
end Go.Proofs.YtjjhjhjphhpeiaaGreatDoor

namespace Go.Proofs.YtjjhjhjphhpeiaaGreatDoor
open Go.RowKit
theorem plain_hereV (v : DVal) : plainV v = hereV v := by
  unfold plainV hereV riseV idsB
  have hR0 : v.names.length = 0 → (List.range v.names.length).all (riseOk v.names) = true := fun h => by rw [h]; rfl
  have hI0 : v.ids.length = 0 → (List.range v.ids.length).all (idOk v.ids) = true := fun h => by rw [h]; rfl
  have hs : decide (v.s = []) = decide (v.s.length = 0) := by rw [decide_eq_decide, List.length_eq_zero_iff]
  rw [hs]
  have hR : (List.range v.names.length).all (riseOk v.names) = true ∨ ((List.range v.names.length).all (riseOk v.names) = false ∧ 0 < v.names.length) := by
    cases h : (List.range v.names.length).all (riseOk v.names) with
    | true => exact .inl rfl
    | false => exact .inr ⟨rfl, Nat.pos_of_ne_zero fun e => by rw [hR0 e] at h; cases h⟩
  have hI : (List.range v.ids.length).all (idOk v.ids) = true ∨ ((List.range v.ids.length).all (idOk v.ids) = false ∧ 0 < v.ids.length) := by
    cases h : (List.range v.ids.length).all (idOk v.ids) with
    | true => exact .inl rfl
    | false => exact .inr ⟨rfl, Nat.pos_of_ne_zero fun e => by rw [hI0 e] at h; cases h⟩
  clear hR0 hI0 hs
  generalize (List.range v.names.length).all (riseOk v.names) = R at *
  generalize (List.range v.ids.length).all (idOk v.ids) = J at *
  generalize nameB v.s = bn at *
  generalize v.kind = kd at *
  generalize v.n = n at *
  generalize v.s.length = xl at *
  generalize v.names.length = nn at *
  generalize v.ids.length = ni at *
  generalize v.parts.length = np at *
  have hk : kd = 1 ∨ kd = 2 ∨ kd = 3 ∨ kd = 4 ∨ kd = 5 ∨ kd = 6 ∨ (kd < 1 ∨ 6 < kd) := by omega
  rw [Bool.eq_iff_iff]
  rcases hR with rfl | ⟨rfl, hR⟩ <;> rcases hI with rfl | ⟨rfl, hI⟩ <;> cases bn <;> rcases hk with rfl | rfl | rfl | rfl | rfl | rfl | hk
  all_goals first
    | (simp only [Int.reduceEq, reduceIte, Bool.and_eq_true, decide_eq_true_eq, Bool.not_eq_true', decide_eq_false_iff_not, Bool.false_eq_true, Bool.or_eq_true, and_true, true_and, and_false, false_and, false_iff, iff_false] <;> (try simp only [bad1, bad2, Int.reduceEq, Int.reduceLT, Bool.false_eq_true, Bool.true_eq_false, and_true, and_false, true_and, false_and, false_or, or_false, true_or, or_true, ne_eq, not_true_eq_false, not_false_eq_true]) <;> omega)
    | (rw [if_neg (by omega), if_neg (by omega), if_neg (by omega), if_neg (by omega), if_neg (by omega), if_neg (by omega)]; simp only [Bool.and_eq_true, decide_eq_true_eq, Bool.not_eq_true', decide_eq_false_iff_not, Bool.false_eq_true, Bool.or_eq_true, and_true, true_and, and_false, false_and, false_iff, iff_false] <;> (try simp only [bad1, bad2, Bool.false_eq_true, Bool.true_eq_false, and_true, and_false, true_and, false_and, false_or, or_false, true_or, or_true, ne_eq, not_true_eq_false, not_false_eq_true]) <;> omega)
theorem depthsV_all (l : List DVal) (k : Nat) : DVal.depths l ≤ k ↔ ∀ p ∈ l, p.depth ≤ k := by
  induction l with
  | nil => simp [DVal.depths]
  | cons x l ih =>
    simp only [DVal.depths, List.mem_cons, forall_eq_or_imp]
    rw [← ih]; omega
theorem right_soundV (k : Nat) : ∀ (s : DVal) (m : Nat), s.depth ≤ m → rightV k s = (decide (s.depth ≤ k) && soundV m s) := by
  induction k with
  | zero => intro s m _; have := s.depth_pos; simp [rightV]; omega
  | succ k ih =>
    intro s m hm
    obtain ⟨m, rfl⟩ : ∃ n, m = n + 1 := ⟨m - 1, by have := s.depth_pos; omega⟩
    have hd := s.depth_eq
    rw [Bool.eq_iff_iff]
    simp only [rightV, soundV, Bool.and_eq_true, decide_eq_true_eq, plain_hereV, List.all_eq_true]
    have hall := depthsV_all s.parts
    constructor
    · rintro ⟨h1, h2⟩
      have h3 : ∀ p ∈ s.parts, p.depth ≤ k ∧ soundV m p = true := fun p hp => by
        have := h2 p hp
        rw [ih p m (by have := DVal.depth_part hp; omega)] at this
        simpa using this
      exact ⟨by have := (hall k).2 (fun p hp => (h3 p hp).1); omega, h1, fun p hp => (h3 p hp).2⟩
    · rintro ⟨h0, h1, h2⟩
      refine ⟨h1, fun p hp => ?_⟩
      rw [ih p m (by have := DVal.depth_part hp; omega), h2 p hp, Bool.and_true, decide_eq_true_eq]
      exact (hall k).1 (by omega) p hp
theorem arg_val {P : Program} {w : World} {η : Names} {X : Nat → Nat → Prop} {v : DVal} {vs : List Value} (hok : okV v) (h : RepL P w η X [encV v] vs) : ∃ cs : List Value, vs = [.agg cs.toArray] ∧ IsVal w (· < w.heap.size) v cs := by
  simp only [RepL] at h
  obtain ⟨x, xs, rfl, h1, rfl⟩ := h
  obtain ⟨cs, rfl, hv⟩ := val_of_rep v.depth v (Nat.le_refl _) hok h1
  exact ⟨cs, rfl, hv⟩
theorem arg_sch {P : Program} {w : World} {η : Names} {X : Nat → Nat → Prop} {v : DSch} {vs : List Value} (hok : okS v) (h : RepL P w η X [encS v] vs) : ∃ cs : List Value, vs = [.agg cs.toArray] ∧ IsSch w (· < w.heap.size) v cs := by
  simp only [RepL] at h
  obtain ⟨x, xs, rfl, h1, rfl⟩ := h
  obtain ⟨cs, rfl, hv⟩ := sch_of_rep v.depth v (Nat.le_refl _) hok h1
  exact ⟨cs, rfl, hv⟩
theorem dpure_val {P : Program} {g : FuncId} {v : DVal} {r : Value} (hok : okV v) (hent : ∀ vs w, (callFunc g vs).run P w = .ok (.enter g vs) w) (h : ∀ (w : World) (cs : List Value), IsVal w (· < w.heap.size) v cs → Calls P g #[.agg cs.toArray] w (Gives r w)) : DPure P g [encV v] (.v r) :=
  dpure_of_gives hent fun w η X vs hr => by obtain ⟨cs, rfl, hv⟩ := arg_val hok hr; exact h w cs hv
theorem dpure_sch {P : Program} {g : FuncId} {v : DSch} {r : Value} (hok : okS v) (hent : ∀ vs w, (callFunc g vs).run P w = .ok (.enter g vs) w) (h : ∀ (w : World) (cs : List Value), IsSch w (· < w.heap.size) v cs → Calls P g #[.agg cs.toArray] w (Gives r w)) : DPure P g [encS v] (.v r) :=
  dpure_of_gives hent fun w η X vs hr => by obtain ⟨cs, rfl, hv⟩ := arg_sch hok hr; exact h w cs hv
theorem greatV_d (v : DVal) (hok : okV v) : DPure Tryz.prog 7 [encV v] (.v (.bool (decide (roomV 12 v 300 < 0)))) := dpure_val hok (fun _ _ => by kernel_rfl) fun w cs h => greatV_calls v cs w h
theorem valRight_d (v : DVal) (hok : okV v) : DPure Tryz.prog 48 [encV v] (.v (.bool (rightV 5 v))) := dpure_val hok (fun _ _ => by kernel_rfl) fun w cs h => valRightP_calls v cs w h
theorem refValDepth_d (v : DVal) (hok : okV v) (hd : v.depth ≤ 1000000) : DPure Tryz.prog 73 [encV v] (.v (.int .i64 v.depth)) := dpure_val hok (fun _ _ => by kernel_rfl) fun w cs h => refValDepth_calls 1000000 v cs w hd (Nat.le_refl _) h
theorem refValRight_d (v : DVal) (hok : okV v) (hd : v.depth ≤ 1000000) : DPure Tryz.prog 36 [encV v] (.v (.bool (rightV 5 v))) := by
  have hr := right_soundV 5 v v.depth (Nat.le_refl _)
  refine dpure_of_dwp mixed Tryz.func36 rfl (fun _ _ => by kernel_rfl) (rs := [.tmp 2]) rfl (by kernel_rfl) trivial (fun S hS => ?_)
  simp only [go_sem, add_ob, set_ob]
  refine DCalls.of_pure (refValDepth_d v hok hd) ?_
  simp only [go_sem, add_ob, set_ob]
  by_cases h5 : v.depth ≤ 5
  · have b1 : decide ((v.depth : Int) ≤ 5) = true := by simp; omega
    simp only [go_sem, add_ob, set_ob, b1]
    refine DCalls.of_pure (refSoundV_d v.depth v (Nat.le_refl _) hok) ?_
    simp only [go_sem, add_ob, set_ob]
    exact ⟨by rw [hr, decide_eq_true h5]; rfl, (St.Sub.refl S).add hS _⟩
  · have b1 : decide ((v.depth : Int) ≤ 5) = false := by simp; omega
    simp only [go_sem, add_ob, set_ob, b1]
    exact ⟨by rw [hr, decide_eq_false h5]; rfl, (St.Sub.refl S).add hS _⟩
theorem sne1_2 (n : Nat) : (n + 1 = n + 2) = False := eq_false (by omega)
theorem sne1_3 (n : Nat) : (n + 1 = n + 3) = False := eq_false (by omega)
theorem sne1_4 (n : Nat) : (n + 1 = n + 4) = False := eq_false (by omega)
theorem sne2_1 (n : Nat) : (n + 2 = n + 1) = False := eq_false (by omega)
theorem sne2_3 (n : Nat) : (n + 2 = n + 3) = False := eq_false (by omega)
theorem sne2_4 (n : Nat) : (n + 2 = n + 4) = False := eq_false (by omega)
theorem sne3_1 (n : Nat) : (n + 3 = n + 1) = False := eq_false (by omega)
theorem sne3_2 (n : Nat) : (n + 3 = n + 2) = False := eq_false (by omega)
theorem sne3_4 (n : Nat) : (n + 3 = n + 4) = False := eq_false (by omega)
theorem sne4_1 (n : Nat) : (n + 4 = n + 1) = False := eq_false (by omega)
theorem sne4_2 (n : Nat) : (n + 4 = n + 2) = False := eq_false (by omega)
theorem sne4_3 (n : Nat) : (n + 4 = n + 3) = False := eq_false (by omega)
theorem sne1_0 (n : Nat) : (n + 1 = n) = False := eq_false (by omega)
theorem sne0_1 (n : Nat) : (n = n + 1) = False := eq_false (by omega)
theorem sne2_0 (n : Nat) : (n + 2 = n) = False := eq_false (by omega)
theorem sne0_2 (n : Nat) : (n = n + 2) = False := eq_false (by omega)
theorem sne3_0 (n : Nat) : (n + 3 = n) = False := eq_false (by omega)
theorem sne0_3 (n : Nat) : (n = n + 3) = False := eq_false (by omega)
theorem sne4_0 (n : Nat) : (n + 4 = n) = False := eq_false (by omega)
theorem sne0_4 (n : Nat) : (n = n + 4) = False := eq_false (by omega)
attribute [go_sem] sne1_2 sne1_3 sne1_4 sne2_1 sne2_3 sne2_4 sne3_1 sne3_2 sne3_4 sne4_1 sne4_2 sne4_3 sne1_0 sne0_1 sne2_0 sne0_2 sne3_0 sne0_3 sne4_0 sne0_4
theorem bin_beql {x y : Operand} (a b : Bool) : dbin Tryz.prog .eql 4 x y (.v (.bool a)) (.v (.bool b)) = some (True, .v (.bool (a == b))) := by
  cases a <;> cases b <;> kernel_rfl
attribute [go_sem] bin_beql
theorem strArg {P : Program} {w : World} {η : Names} {X : Nat → Nat → Prop} {own : Own} {l : List Str} {y : Value} (h : Rep P w η X (.sl own (l.map strD)) y) : ∃ A c, y = .slice A l.length c ∧ l.length ≤ c ∧ RF w (· < w.heap.size) 1 A l.length (l.map sv) := scalars_of_rep sv h
def RV (v : DVal) : Prop := ∃ m, v.depth ≤ m ∧ soundV m v = true
def RS (s : DSch) : Prop := ∃ m, s.depth ≤ m ∧ soundS m s = true
theorem RV.part {v p : DVal} (h : RV v) (hp : p ∈ v.parts) : RV p := by
  obtain ⟨m, h1, h2⟩ := h
  obtain ⟨m, rfl⟩ : ∃ n, m = n + 1 := ⟨m - 1, by have := v.depth_pos; omega⟩
  rw [soundV, Bool.and_eq_true] at h2
  exact ⟨m, by have := DVal.depth_part hp; omega, List.all_eq_true.1 h2.2 p hp⟩
theorem RS.part {v p : DSch} (h : RS v) (hp : p ∈ v.parts) : RS p := by
  obtain ⟨m, h1, h2⟩ := h
  obtain ⟨m, rfl⟩ : ∃ n, m = n + 1 := ⟨m - 1, by have := v.depth_pos; omega⟩
  rw [soundS, Bool.and_eq_true] at h2
  exact ⟨m, by have := DSch.depth_part hp; omega, List.all_eq_true.1 h2.2 p hp⟩
theorem RV.here {v : DVal} (h : RV v) : (v.kind ≠ 5 → v.names.length = 0) ∧ (v.kind ≠ 6 → v.ids.length = 0) ∧ v.parts.length = v.names.length + v.ids.length := by
  obtain ⟨m, h1, h2⟩ := h
  obtain ⟨m, rfl⟩ : ∃ n, m = n + 1 := ⟨m - 1, by have := v.depth_pos; omega⟩
  rw [soundV, Bool.and_eq_true, hereV, Bool.and_eq_true, Bool.and_eq_true, Bool.not_eq_true', Bool.not_eq_true', decide_eq_false_iff_not, decide_eq_false_iff_not] at h2
  have h3 := h2.1.1.1
  have h4 := h2.1.1.2
  unfold bad1 at h3
  unfold bad2 at h4
  omega
theorem RS.here {s : DSch} (h : RS s) : (s.kind = 5 → s.parts.length = s.words.length) ∧ (s.kind = 6 → s.parts.length = 1) := by
  obtain ⟨m, h1, h2⟩ := h
  obtain ⟨m, rfl⟩ : ∃ n, m = n + 1 := ⟨m - 1, by have := s.depth_pos; omega⟩
  rw [soundS, Bool.and_eq_true, hereS, Bool.and_eq_true, Bool.and_eq_true, decide_eq_true_eq] at h2
  have h3 := h2.1.2.1
  unfold wantS at h3
  exact ⟨fun h => by rw [if_pos h] at h3; exact h3, fun h => by rw [if_neg (by omega), if_pos h] at h3; exact h3⟩
def headF (v : DVal) (s : DSch) : Bool := decide (v.kind = s.kind) && ((!decide (v.kind = 4) || decide (v.s ∈ s.words)) && (!decide (v.kind = 5) || decide (v.names = s.words)))
def atF (s : DSch) (i : Nat) : Nat := if s.kind = 6 then 0 else i
def fitsV : Nat → DVal → DSch → Bool
  | 0, _, _ => true
  | k + 1, v, s => headF v s && (List.range v.parts.length).all fun i => fitsV k (v.parts.getD i default) (s.parts.getD (atF s i) default)
theorem atF_lt {v : DVal} {s : DSch} (hv : RV v) (hs : RS s) (h : headF v s = true) {i : Nat} (hi : i < v.parts.length) : atF s i < s.parts.length := by
  have h1 := hv.here
  have h2 := hs.here
  rw [headF, Bool.and_eq_true, decide_eq_true_eq, Bool.and_eq_true] at h
  obtain ⟨hk, _, hn⟩ := h
  unfold atF
  by_cases h6 : s.kind = 6
  · rw [if_pos h6, h2.2 h6]; omega
  · rw [if_neg h6]
    by_cases h5 : v.kind = 5
    · rw [h5] at hn
      have : v.names = s.words := by simpa using hn
      rw [h2.1 (by omega), ← this]; omega
    · omega
theorem RV.of_right {v : DVal} (h : rightV 5 v = true) : RV v := ⟨v.depth, Nat.le_refl _, by
  have := right_soundV 5 v v.depth (Nat.le_refl _)
  rw [h] at this
  exact (Bool.and_eq_true _ _ ▸ this.symm).2⟩
theorem i64_0 : I64 0 := WalkArith.wf_i64 (by omega)
theorem zeroV_ok : okV zeroV := by rw [okV_eq]; exact ⟨i64_0, i64_0, by simp [zeroV, DVal.s], by simp [zeroV, DVal.names], by simp [zeroV, DVal.names], by simp [zeroV, DVal.ids], by simp [zeroV, DVal.ids], by simp [zeroV, DVal.parts], by simp [zeroV, DVal.parts]⟩
end Go.Proofs.YtjjhjhjphhpeiaaGreatDoor

namespace Go.Proofs.YtjjhjhjphhpeiaaGreatDoor
open Go.RowKit
def rowOb (S : St) (own : Own) (e : TypeId) (n : Nat) : Nat → Option Ob := fun k => match own with
  | .row g => if k = g then some (.row e n) else S.ob k
  | _ => S.ob k
theorem row_sub {S : St} (hS : S.WF) {e : TypeId} {own : Own} {i n : Nat} (h : (i = 0 ∧ own = .full) ∨ (0 < i ∧ ∃ g, own = .row g ∧ S.next ≤ g ∧ g < n)) (hn : S.next ≤ n) : S.Sub ⟨n, rowOb S own e i⟩ := ⟨hn, fun k o hk => by
  rcases h with ⟨_, rfl⟩ | ⟨_, g, rfl, h1, _⟩
  · exact hk
  · have := hS.lt hk
    show (if k = g then _ else _) = _
    rw [if_neg (by omega)]
    exact hk⟩
theorem closed_slV (l : List DVal) : (D.sl .no (l.map encV)).closed := by
  simp only [D.closed, D.all, Own.all]
  exact ⟨trivial, by rw [← encVs_map]; exact closed_encVs l⟩
theorem row_next {S : St} (hS : S.WF) {e : TypeId} {own : Own} {i n : Nat} (h : (i = 0 ∧ own = .full) ∨ (0 < i ∧ ∃ g, own = .row g ∧ S.next ≤ g ∧ g < n)) (hn : S.next ≤ n) (o1 o2 : Ob) (m : Nat) :
    ∀ k o, rowOb S (.row (n + 1)) e m k = some o → (((St.add ⟨n, rowOb S own e i⟩ o1).set n o2).grow own e m).ob k = some o := fun k o hk => by
  by_cases h1 : k = n + 1
  · subst h1
    simp only [rowOb, if_true] at hk
    rcases h with ⟨_, rfl⟩ | ⟨_, g, rfl, _, _⟩
    · rw [grow_full_ob, set_next, add_next, if_pos rfl, hk]
    · rw [grow_row_ob, set_next, add_next, if_pos rfl, hk]
  · simp only [rowOb, if_neg h1] at hk
    have h2 := hS.lt hk
    rcases h with ⟨_, rfl⟩ | ⟨_, g, rfl, h3, h4⟩
    · rw [grow_full_ob, set_next, add_next, if_neg h1, set_ob, add_ob, if_neg (by omega)]
      show (if k = n then _ else rowOb S .full e i k) = _
      rw [if_neg (by omega)]
      exact hk
    · rw [grow_row_ob, set_next, add_next, if_neg h1, if_neg (by omega), set_ob, add_ob, if_neg (by omega)]
      show (if k = n then _ else rowOb S (.row g) e i k) = _
      rw [if_neg (by omega)]
      show (if k = g then _ else _) = _
      rw [if_neg (by omega)]
      exact hk
structure LC (l : List DVal) (S : St) (f : Fm) (T : St) (i : Nat) (own : Own) : Prop where
  st : T.ob = rowOb S own 29 i
  nx : S.next ≤ T.next
  ow : (i = 0 ∧ own = .full) ∨ (0 < i ∧ ∃ g, own = .row g ∧ S.next ≤ g ∧ g < T.next)
  s1 : f 1 = .fn (.func 67) [] []
  s5 : f 5 = .sl own ((l.take i).map encV)
  s8 : f 8 = .sl .no (l.map encV)
  s9 : f 9 = .v (.int .i64 l.length)
  s10 : f 10 = .v (.int .i64 i)
  le : i ≤ l.length
def LCE (l : List DVal) (S : St) (f : Fm) (T : St) : Prop := ∃ i own, LC l S f T i own
set_option maxRecDepth 200000 in
set_option maxHeartbeats 4000000 in
theorem copyParts_d (l : List DVal) (hl : l.length ≤ 1000000) (h : ∀ p ∈ l, DPure Tryz.prog 67 [encV p] (encV p)) : DPure Tryz.prog 112 [.sl .no (l.map encV), .fn (.func 67) [] []] (.sl .no (l.map encV)) := by
  refine dpure_of_dwp mixed Tryz.func112 rfl (fun _ _ => by kernel_rfl) (rs := [.tmp 4]) rfl (by kernel_rfl) (closed_slV l) (fun S hS => ?_)
  simp only [go_sem, add_ob, set_ob]
  refine dloop_mk (LCE l S) (fun f _ => l.length - slotN (f 10)) ⟨0, .full, ⟨rfl, Nat.le_refl _, .inl ⟨rfl, rfl⟩, by simp only [go_sem, add_ob, set_ob], by simp only [go_sem, add_ob, set_ob], by simp only [go_sem, add_ob, set_ob], by simp only [go_sem, add_ob, set_ob], by simp only [go_sem, add_ob, set_ob]; rfl, by omega⟩⟩ ?_
  rintro g ⟨tn, tob⟩ ⟨i, own, q⟩
  obtain rfl : tob = rowOb S own 29 i := q.st
  have nx : S.next ≤ tn := q.nx
  by_cases hlt : i < l.length
  · have b1 : decide ((i : Int) < (l.length : Int)) = true := by simp; omega
    have hx := getD_map encV l i hlt
    have c1 : (0 : Int) ≤ (i : Int) := by omega
    have c2 : (i : Int) < (l.length : Int) := by omega
    have w1 : IntKind.i64.wrap ((i : Int) + 1) = (i : Int) + 1 := IntWalk.i64_in _ ⟨by omega, by omega⟩
    simp only [go_sem, add_ob, set_ob, q.s1, q.s5, q.s8, q.s9, q.s10, b1, hx, c1, c2]
    refine DCalls.of_pure (h l[i] (List.getElem_mem hlt)) ?_
    simp only [go_sem, add_ob, set_ob, q.s1, q.s5, q.s8, q.s9, q.s10, w1]
    refine ⟨⟨by rfl, fun d hd => by rw [List.mem_singleton] at hd; subst hd; exact ⟨okCell_encV _, cells_encV _⟩⟩, dapp_row ?_⟩
    simp only [go_sem, add_ob, set_ob, q.s1, q.s5, q.s8, q.s9, q.s10, w1]
    have hlt2 : (l.take i).length = i := by rw [List.length_take]; omega
    have hsub0 : S.Sub ⟨tn, rowOb S own 29 i⟩ := row_sub hS q.ow nx
    refine ⟨rfl, fun d hd => ?_, fun d hd => ?_, ?_, by omega, by omega, ?_⟩
    · obtain ⟨p, _, rfl⟩ := List.mem_map.1 hd; exact cells_encV _
    · rw [List.mem_singleton] at hd; subst hd; exact cells_encV _
    · rcases q.ow with ⟨rfl, rfl⟩ | ⟨h0, g', rfl, hg1, hg2⟩
      · trivial
      · have e2 : (g' : Nat) ≠ tn := by have hg : g' < tn := hg2; omega
        simp only [e2, if_false, rowOb, if_true, hlt2]
    · refine round_back (rowOb S (.row (tn + 1)) 29 (i + 1)) ?_ ⟨i + 1, .row (tn + 1), ⟨rfl, ?_, .inr ⟨by omega, _, rfl, by omega, ?_⟩, by simp only [go_sem, add_ob, set_ob, q.s1], ?_, by simp only [go_sem, add_ob, set_ob, q.s8], by simp only [go_sem, add_ob, set_ob, q.s9], by simp only [go_sem, add_ob, set_ob]; rfl, by omega⟩⟩ (by simp only [go_sem, add_ob, set_ob]; omega)
      · rw [hlt2]; exact row_next hS q.ow nx _ _ _
      · show S.next ≤ _
        simp only [grow_next, set_next, add_next]; omega
      · simp only [grow_next, set_next, add_next]; omega
      · simp only [go_sem, add_ob, set_ob]
        rw [List.take_succ_eq_append_getElem hlt, List.map_append]
        rfl
  · have b1 : decide ((i : Int) < (l.length : Int)) = false := by simp; omega
    simp only [go_sem, add_ob, set_ob, q.s1, q.s5, q.s8, q.s9, q.s10, b1]
    have hi : i = l.length := by have := q.le; omega
    exact ⟨by rw [hi, List.take_length]; simp only [D.frz, frz_mapV], row_sub hS q.ow nx⟩
theorem partsLen (v : DVal) : v.parts.length ≤ DVal.weights v.parts := by
  have : ∀ l : List DVal, l.length ≤ DVal.weights l := fun l => by
    induction l with
    | nil => exact Nat.zero_le _
    | cons p l ih => simp only [DVal.weights, List.length_cons]; have := p.weight_eq; omega
  exact this _
set_option maxRecDepth 200000 in
set_option maxHeartbeats 4000000 in
theorem copyV_d (k : Nat) : ∀ (v : DVal), v.depth ≤ k → v.weight ≤ 1000000 → DPure Tryz.prog 67 [encV v] (encV v) := by
  induction k with
  | zero => intro v h; have := v.depth_pos; omega
  | succ k ih =>
    intro v hk hw
    have hwe := v.weight_eq
    have hpl := partsLen v
    have hparts := copyParts_d v.parts (by omega) fun p hp => ih p (by have := DVal.depth_part hp; omega) (by have := DVal.weight_part hp; omega)
    refine dpure_of_dwp mixed Tryz.func67 rfl (fun _ _ => by kernel_rfl) (rs := [.cell 2 29]) rfl (by kernel_rfl) (closed_encV v) (fun S hS => ?_)
    simp only [go_sem, add_ob, set_ob, encV_eq v]
    refine ddraw_mk 7 (by kernel_rfl) ?_
    simp only [go_sem, add_ob, set_ob]
    refine ⟨⟨rfl, (fun d hd => by cases hd), (fun d hd => by obtain ⟨p, _, rfl⟩ := List.mem_map.1 hd; rfl), by omega, by omega⟩, ⟨rfl, (fun d hd => by cases hd), (fun d hd => by obtain ⟨p, _, rfl⟩ := List.mem_map.1 hd; rfl), by omega, by omega⟩, ?_⟩
    refine DCalls.of_pure hparts ?_
    simp only [go_sem, add_ob, set_ob]
    refine ⟨?_, ?_⟩
    · simp only [D.frz, frzL, frz_strs, frz_u64s, frz_mapV, strD]
    · exact ((((((St.Sub.refl S).add hS _).add hS _).set hS (Nat.le_refl _) _).set hS (Nat.le_refl _) _).set hS (Nat.le_refl _) _).set hS (by omega) _
end Go.Proofs.YtjjhjhjphhpeiaaGreatDoor

namespace Go.Proofs.YtjjhjhjphhpeiaaGreatDoor
open Go.RowKit
def ixN {α : Type} [DecidableEq α] (l : List α) (x : α) : Nat := l.idxOf x
def ixI {α : Type} [DecidableEq α] (l : List α) (x : α) : Int := if x ∈ l then (ixN l x : Int) else -1
theorem ix_lt {α : Type} [DecidableEq α] {l : List α} {x : α} (h : x ∈ l) : ixN l x < l.length := List.idxOf_lt_length_of_mem h
theorem idxP_ix {α : Type} [DecidableEq α] {l : List α} {x : α} {e : Ending} (h : IdxP (fun i => decide (l[i]? = some x)) l.length e) : e = .returned (.int .i64 (ixI l x)) := by
  rcases h with ⟨k, hk, rfl, h1, h2⟩ | ⟨rfl, h2⟩
  · have hx : l[k] = x := by
      have := of_decide_eq_true h1
      rw [List.getElem?_eq_getElem hk] at this
      exact Option.some.inj this
    have hm : x ∈ l := hx ▸ List.getElem_mem hk
    have hi : ixN l x = k := by
      show l.findIdx (· == x) = k
      rw [List.findIdx_eq hk]
      refine ⟨by simp [hx], fun j hj => ?_⟩
      have := of_decide_eq_false (h2 j hj)
      rw [List.getElem?_eq_getElem (by omega)] at this
      simp only [beq_eq_false_iff_ne, ne_eq]
      exact fun e => this (by rw [e])
    rw [ixI, if_pos hm, hi]
  · have hm : ¬ x ∈ l := fun hm => by
      obtain ⟨j, hj, e⟩ := List.getElem_of_mem hm
      have := of_decide_eq_false (h2 j hj)
      rw [List.getElem?_eq_getElem hj, e] at this
      exact this rfl
    rw [ixI, if_neg hm]
theorem strIndex_d (own : Own) (l : List Str) (x : Str) (hn : l.length ≤ 140737488351232) : DPure Tryz.prog 129 [.sl own (l.map strD), .v (sv x)] (.v (.int .i64 (ixI l x))) :=
  dpure_of_gives (fun _ _ => by kernel_rfl) fun w η X vs hr => by
    simp only [RepL] at hr
    obtain ⟨y, ys, rfl, h1, z, zs, rfl, h2, rfl⟩ := hr
    obtain ⟨A, c, rfl, hc, hf⟩ := strArg h1
    simp only [Rep] at h2
    subst h2
    exact (strIndex_calls l x A c w hf hn).mono fun e w' ⟨he, hw⟩ => ⟨idxP_ix he, hw ▸ Below.refl _ _⟩
theorem uIndex_d (own : Own) (l : List Nat) (x : Nat) (hn : l.length ≤ 140737488351232) : DPure Tryz.prog 110 [.sl own (l.map u64D), .v (uv x)] (.v (.int .i64 (ixI l x))) :=
  dpure_of_gives (fun _ _ => by kernel_rfl) fun w η X vs hr => by
    simp only [RepL] at hr
    obtain ⟨y, ys, rfl, h1, z, zs, rfl, h2, rfl⟩ := hr
    obtain ⟨A, c, rfl, hc, hf⟩ := scalars_of_rep uv h1
    simp only [Rep] at h2
    subst h2
    exact (uIndex_calls l x A c w hf hn).mono fun e w' ⟨he, hw⟩ => ⟨idxP_ix he, hw ▸ Below.refl _ _⟩
def wholeB (v : DVal) : Bool := decide (v.kind = 5) && decide (v.names.length ≤ v.parts.length)
set_option maxRecDepth 200000 in
set_option maxHeartbeats 4000000 in
theorem whole_d (v : DVal) : DPure Tryz.prog 180 [encV v] (.v (.bool (wholeB v))) := by
  refine dpure_of_dwp mixed Tryz.func180 rfl (fun _ _ => by kernel_rfl) (rs := [.tmp 2]) rfl (by kernel_rfl) trivial (fun S hS => ?_)
  by_cases h5 : v.kind = 5
  · have b5 : (v.kind == 5) = true := by simp [h5]
    simp only [go_sem, add_ob, set_ob, encV_eq v, b5]
    refine ⟨?_, (St.Sub.refl S).add hS _⟩
    simp only [D.frz, wholeB, decide_eq_true h5, Bool.true_and]
    congr 3
    exact propext ⟨fun h => by omega, fun h => by omega⟩
  · have b5 : (v.kind == 5) = false := by simp [h5]
    simp only [go_sem, add_ob, set_ob, encV_eq v, b5]
    exact ⟨by simp only [D.frz, wholeB, decide_eq_false h5, Bool.false_and], (St.Sub.refl S).add hS _⟩
def elemV (v : DVal) (x : Nat) : D := if v.kind = 6 ∧ x ∈ v.ids then .tup [.v (.int .i64 (ixN v.ids x : Int)), .v (.bool true)] else .tup [.v (.int .i64 0), .v (.bool false)]
theorem elemV_closed (v : DVal) (x : Nat) : (elemV v x).closed := by unfold elemV; split <;> simp [D.closed, D.all, allL]
set_option maxRecDepth 200000 in
set_option maxHeartbeats 4000000 in
theorem elem_d (v : DVal) (x : Nat) (hn : v.ids.length ≤ 140737488351232) : DPure Tryz.prog 108 [encV v, .v (uv x)] (elemV v x) := by
  refine dpure_of_dwp mixed Tryz.func108 rfl (fun _ _ => by kernel_rfl) (rs := [.tmp 4, .tmp 5]) rfl (by kernel_rfl) (elemV_closed v x) (fun S hS => ?_)
  simp only [go_sem, add_ob, set_ob, encV_eq v]
  refine DCalls.of_pure (uIndex_d .no v.ids x hn) ?_
  by_cases h6 : v.kind = 6
  · have b6 : (v.kind != 6) = false := by simp [h6]
    by_cases hm : x ∈ v.ids
    · have b7 : decide (ixI v.ids x < 0) = false := by unfold ixI; rw [if_pos hm]; simp
      simp only [go_sem, add_ob, set_ob, b6, b7]
      refine ⟨?_, (St.Sub.refl S).add hS _⟩
      simp only [D.frz, frzL, elemV, h6, hm, and_self, if_true, ixI]
    · have b7 : decide (ixI v.ids x < 0) = true := by unfold ixI; rw [if_neg hm]; decide
      simp only [go_sem, add_ob, set_ob, b6, b7]
      refine ⟨?_, (St.Sub.refl S).add hS _⟩
      simp only [D.frz, frzL, elemV, hm, and_false, if_false]
  · have b6 : (v.kind != 6) = true := by simp [h6]
    simp only [go_sem, add_ob, set_ob, b6]
    refine ⟨?_, (St.Sub.refl S).add hS _⟩
    simp only [D.frz, frzL, elemV, h6, false_and, if_false]
theorem pfin_cell_tmp_normal {P : Program} {S : St} {f : Fm} (x : Tmp) (t : TypeId) (u : Tmp) (S' : St) (d : D) : DQ.pfin P [.cell x t, .tmp u] S d .normal f S' = dcellR P S' t (f x) (fun r => PFin S S' (.tup [r, f u]) d) := by
  rw [← onVal_cell]
  simp [DQ.pfin, dresL, dres, onVal, one]
theorem pfin_cell_tmp_ret {P : Program} {S : St} {f : Fm} (x : Tmp) (t : TypeId) (u : Tmp) (S' : St) (d : D) : DQ.pfin P [.cell x t, .tmp u] S d .ret f S' = dcellR P S' t (f x) (fun r => PFin S S' (.tup [r, f u]) d) := by
  rw [← onVal_cell]
  simp [DQ.pfin, dresL, dres, onVal, one]
attribute [go_sem] pfin_cell_tmp_normal pfin_cell_tmp_ret
def fieldV (v : DVal) (x : Str) : D := if wholeB v = true ∧ x ∈ v.names then .tup [encV (v.parts.getD (ixN v.names x) default), .v (.bool true)] else .tup [encV zeroV, .v (.bool false)]
theorem fieldV_closed (v : DVal) (x : Str) : (fieldV v x).closed := by
  unfold fieldV
  split <;> (simp only [D.closed, D.all, allL, and_true]; exact closed_encV _)
set_option maxRecDepth 200000 in
set_option maxHeartbeats 4000000 in
theorem field_d (v : DVal) (x : Str) (hok : okV v) (hw : v.weight ≤ 1000000) : DPure Tryz.prog 175 [encV v, .v (sv x)] (fieldV v x) := by
  obtain ⟨o1, o2, o3, o4, o5, o6, o7, o8, o9⟩ := (okV_eq v).1 hok
  refine dpure_of_dwp mixed Tryz.func175 rfl (fun _ _ => by kernel_rfl) (rs := [.cell 4 29, .tmp 5]) rfl (by kernel_rfl) (fieldV_closed v x) (fun S hS => ?_)
  have hsub : ∀ a b c, S.Sub (((S.add a).add b).set (S.next + 1) c) := fun a b c => (((St.Sub.refl S).add hS _).add hS _).set hS (by omega) _
  simp only [go_sem, add_ob, set_ob, encV_eq v]
  refine DCalls.of_pure (strIndex_d .no v.names x o5) ?_
  simp only [go_sem, add_ob, set_ob]
  refine DCalls.of_pure (by have := whole_d v; rw [encV_eq v] at this; exact this) ?_
  cases hwb : wholeB v with
  | true =>
    by_cases hm : x ∈ v.names
    · have b7 : decide (ixI v.names x < 0) = false := by unfold ixI; rw [if_pos hm]; simp
      have hlt := ix_lt hm
      have hpl : ixN v.names x < v.parts.length := by
        simp only [wholeB, Bool.and_eq_true, decide_eq_true_eq] at hwb
        omega
      have hi : ixI v.names x = (ixN v.names x : Int) := by unfold ixI; rw [if_pos hm]
      have b8 : decide ((ixN v.names x : Int) < 0) = false := by simp
      have hx := getD_map encV v.parts _ hpl
      have c1 : (0 : Int) ≤ (ixN v.names x : Int) := by omega
      have c2 : (ixN v.names x : Int) < (v.parts.length : Int) := by omega
      simp only [go_sem, add_ob, set_ob, hi, b8, hx, c1, c2]
      refine DCalls.of_pure (copyV_d _ v.parts[ixN v.names x] (Nat.le_refl _) (by have := DVal.weight_part (List.getElem_mem hpl); omega)) ?_
      simp only [go_sem, add_ob, set_ob]
      refine ⟨?_, hsub _ _ _⟩
      simp only [D.frz, frzL, frz_encV, fieldV, hwb, hm, and_self, if_true, getD_at hpl]
    · have b7 : decide (ixI v.names x < 0) = true := by unfold ixI; rw [if_neg hm]; decide
      simp only [go_sem, add_ob, set_ob, b7]
      refine ⟨?_, hsub _ _ _⟩
      simp only [D.frz, frzL, fieldV, hm, and_false, if_false]
      rfl
  | false =>
    simp only [go_sem, add_ob, set_ob]
    refine ⟨?_, hsub _ _ _⟩
    simp only [D.frz, frzL, fieldV, hwb, Bool.false_eq_true, false_and, if_false]
    rfl
abbrev DStp := Str × Nat
def encP (p : DStp) : D := .agg [strD p.1, u64D p.2]
def placeOf (v : DVal) (p : DStp) : Int := if p.1 = [] then (if v.kind = 6 ∧ p.2 ∈ v.ids then (ixN v.ids p.2 : Int) else -1) else if wholeB v = true ∧ p.1 ∈ v.names then (ixN v.names p.1 : Int) else -1
def partV (v : DVal) (p : DStp) : D := .tup [.v (.int .i64 (placeOf v p)), .v (.bool (decide (0 ≤ placeOf v p) && decide (placeOf v p < (v.parts.length : Int))))]
theorem part_end {v : DVal} {p : DStp} {S T : St} (hs : S.Sub T) {i : Int} (hi : i = placeOf v p) {b : Bool} (hb : b = (decide (0 ≤ placeOf v p) && decide (placeOf v p < (v.parts.length : Int)))) : PFin S T (.tup [.v (.int .i64 i), .v (.bool b)]) (partV v p) := ⟨by rw [hi, hb]; rfl, hs⟩
set_option maxRecDepth 200000 in
set_option maxHeartbeats 4000000 in
theorem part_d (v : DVal) (p : DStp) (hok : okV v) (hw : v.weight ≤ 1000000) : DPure Tryz.prog 166 [encV v, encP p] (partV v p) := by
  obtain ⟨o1, o2, o3, o4, o5, o6, o7, o8, o9⟩ := (okV_eq v).1 hok
  refine dpure_of_dwp mixed Tryz.func166 rfl (fun _ _ => by kernel_rfl) (rs := [.tmp 4, .tmp 5]) rfl (by kernel_rfl) (by simp [partV, D.closed, D.all, allL]) (fun S hS => ?_)
  simp only [go_sem, add_ob, set_ob, encP]
  by_cases h0 : p.1 = []
  · have b1 : (p.1 == []) = true := by simp [h0]
    simp only [go_sem, add_ob, set_ob, b1]
    refine DCalls.of_pure (elem_d v p.2 o7) ?_
    by_cases hc : v.kind = 6 ∧ p.2 ∈ v.ids
    · have he : elemV v p.2 = .tup [.v (.int .i64 (ixN v.ids p.2 : Int)), .v (.bool true)] := by unfold elemV; rw [if_pos hc]
      have hpl : placeOf v p = (ixN v.ids p.2 : Int) := by unfold placeOf; rw [if_pos h0, if_pos hc]
      have b2 : decide ((0 : Int) ≤ (ixN v.ids p.2 : Int)) = true := by simp
      simp only [go_sem, add_ob, set_ob, he, b2]
      refine ddraw_mk 12 (by kernel_rfl) ?_
      simp only [go_sem, add_ob, set_ob, b2, encV_eq v]
      exact part_end (((St.Sub.refl S).add hS _).add hS _) hpl.symm (by rw [hpl, b2, Bool.true_and])
    · have he : elemV v p.2 = .tup [.v (.int .i64 0), .v (.bool false)] := by unfold elemV; rw [if_neg hc]
      have hpl : placeOf v p = -1 := by unfold placeOf; rw [if_pos h0, if_neg hc]
      have b2 : decide ((0 : Int) ≤ -1) = false := by decide
      simp only [go_sem, add_ob, set_ob, he, b2]
      refine ddraw_mk 12 (by kernel_rfl) ?_
      simp only [go_sem, add_ob, set_ob, b2, encV_eq v]
      exact part_end (((St.Sub.refl S).add hS _).add hS _) hpl.symm (by rw [hpl, b2, Bool.false_and])
  · have b1 : (p.1 == []) = false := by simp [h0]
    simp only [go_sem, add_ob, set_ob, b1]
    refine DCalls.of_pure (field_d v p.1 hok hw) ?_
    by_cases hc : wholeB v = true ∧ p.1 ∈ v.names
    · have he : fieldV v p.1 = .tup [encV (v.parts.getD (ixN v.names p.1) default), .v (.bool true)] := by unfold fieldV; rw [if_pos hc]
      have hi : ixI v.names p.1 = (ixN v.names p.1 : Int) := by unfold ixI; rw [if_pos hc.2]
      have hpl : placeOf v p = (ixN v.names p.1 : Int) := by unfold placeOf; rw [if_neg h0, if_pos hc]
      have b2 : decide ((0 : Int) ≤ (ixN v.names p.1 : Int)) = true := by simp
      simp only [go_sem, add_ob, set_ob, he, b2, encV_eq v]
      refine DCalls.of_pure (strIndex_d .no v.names p.1 o5) ?_
      simp only [go_sem, add_ob, set_ob, hi, b2]
      refine ddraw_mk 12 (by kernel_rfl) ?_
      simp only [go_sem, add_ob, set_ob, b2, encV_eq v]
      exact part_end ((((St.Sub.refl S).add hS _).add hS _).add hS _ |>.set hS (by omega) _) hpl.symm (by rw [hpl, b2, Bool.true_and])
    · have he : fieldV v p.1 = .tup [encV zeroV, .v (.bool false)] := by unfold fieldV; rw [if_neg hc]
      have hpl : placeOf v p = -1 := by unfold placeOf; rw [if_neg h0, if_neg hc]
      have b2 : decide ((0 : Int) ≤ -1) = false := by decide
      simp only [go_sem, add_ob, set_ob, he, b2]
      refine ddraw_mk 12 (by kernel_rfl) ?_
      simp only [go_sem, add_ob, set_ob, b2, encV_eq v]
      exact part_end ((((St.Sub.refl S).add hS _).add hS _).add hS _ |>.set hS (by omega) _) hpl.symm (by rw [hpl, b2, Bool.false_and])
end Go.Proofs.YtjjhjhjphhpeiaaGreatDoor

namespace Go.Proofs.YtjjhjhjphhpeiaaGreatDoor
open Go.RowKit
theorem fin_cell_normal {P : Program} {S : St} {f : Fm} {K : D → St → Prop} (x : Tmp) (t : TypeId) (S' : St) : DQ.fin P [.cell x t] S K .normal f S' = dcellR P S' t (f x) (fun r => DFinT P S S' r K) := onVal_cell x t _
theorem fin_cell_ret {P : Program} {S : St} {f : Fm} {K : D → St → Prop} (x : Tmp) (t : TypeId) (S' : St) : DQ.fin P [.cell x t] S K .ret f S' = dcellR P S' t (f x) (fun r => DFinT P S S' r K) := onVal_cell x t _
theorem fin_cell_tmp_normal {P : Program} {S : St} {f : Fm} {K : D → St → Prop} (x : Tmp) (t : TypeId) (u : Tmp) (S' : St) : DQ.fin P [.cell x t, .tmp u] S K .normal f S' = dcellR P S' t (f x) (fun r => DFinT P S S' (.tup [r, f u]) K) := by
  rw [← onVal_cell]
  simp [DQ.fin, dresL, dres, onVal, one]
theorem fin_cell_tmp_ret {P : Program} {S : St} {f : Fm} {K : D → St → Prop} (x : Tmp) (t : TypeId) (u : Tmp) (S' : St) : DQ.fin P [.cell x t, .tmp u] S K .ret f S' = dcellR P S' t (f x) (fun r => DFinT P S S' (.tup [r, f u]) K) := by
  rw [← onVal_cell]
  simp [DQ.fin, dresL, dres, onVal, one]
attribute [go_sem] fin_cell_normal fin_cell_ret fin_cell_tmp_normal fin_cell_tmp_ret
theorem allL_closed {l : List D} {n : Nat} (h : allL (fun _ => False) l) : allL (· < n) l := allL_mono (fun _ h => h.elim) h
theorem encV_cells_closed (v : DVal) : allL (fun _ => False) (encV v).cells := by
  have := closed_encV v
  rw [encV_eq] at this ⊢
  exact this
theorem get1_fin {S T : St} {c : Nat} {cs : List D} {u : DVal} (hS : S.WF) (hc : S.ob c = some (.box 29 cs)) (hn : S.next ≤ T.next) (h1 : T.ob c = some (.box 29 (encV u).cells)) (h2 : ∀ k o, k ≠ c → S.ob k = some o → T.ob k = some o) {d : D} (hd : d = encV u) :
    DFin S T d (fun d S' => d = encV u ∧ S' = S.set c (.box 29 (encV u).cells)) := by
  subst hd
  refine ⟨encV u, S.set c (.box 29 (encV u).cells), DLe.refl _, D.all_mono (fun _ h => h.elim) (closed_encV u), hn, Nat.le_refl _, fun k o hk => ?_, rfl, rfl⟩
  simp only [set_ob] at hk
  by_cases e : k = c
  · subst e
    rw [if_pos rfl] at hk
    injection hk with hk
    subst hk
    refine ⟨h1, hS.lt hc, fun t cs' hb => .inr ?_⟩
    injection hb with hb1 hb2
    subst hb2
    exact allL_closed (encV_cells_closed u)
  · rw [if_neg e] at hk
    exact ⟨h2 k o e hk, hS.lt hk, fun _ _ _ => .inl hk⟩
set_option maxRecDepth 200000 in
set_option maxHeartbeats 4000000 in
theorem get1_d (S : St) (c : Nat) (cs : List D) (hc : S.ob c = some (.box 29 cs)) (hl : cs.length = 6) (u : DVal) (hw : u.weight ≤ 1000000) :
    DCalls Tryz.prog 147 [encV u, .loc c 0] S (fun d S' => d = encV u ∧ S' = S.set c (.box 29 (encV u).cells)) := by
  refine dcalls_of_dwp mixed Tryz.func147 rfl (fun _ _ => by kernel_rfl) (rs := [.cell 3 29]) rfl (by kernel_rfl) (fun hS => ?_)
  have hlt := hS.lt hc
  have e1 : (c = S.next) = False := eq_false (by omega)
  have e2 : (c = S.next + 1) = False := eq_false (by omega)
  have e3 : (S.next = c) = False := eq_false (by omega)
  have e4 : (S.next + 1 = c) = False := eq_false (by omega)
  have hd : cs.drop 6 = [] := List.drop_of_length_le (by omega)
  simp only [go_sem, add_ob, set_ob]
  refine DCalls.of_pure (copyV_d _ u (Nat.le_refl _) hw) ?_
  simp only [go_sem, add_ob, set_ob, e1, e2, e3, e4, hc, hl, hd]
  refine DFin.t (get1_fin hS hc (by simp only [set_next, add_next]; omega) ?_ (fun k o hk ho => ?_) rfl)
  · simp only [set_ob]
    rw [if_neg (by omega), if_pos trivial]
  · have := hS.lt ho
    simp only [set_ob, add_ob, add_next]
    rw [if_neg (by omega), if_neg hk, if_neg (by omega), if_neg (by omega)]
    exact ho
def getV : List DStp → DVal → Option DVal
  | [], v => some v
  | p :: ps, v => if 0 ≤ placeOf v p ∧ placeOf v p < (v.parts.length : Int) then getV ps (v.parts.getD (placeOf v p).toNat default) else none
end Go.Proofs.YtjjhjhjphhpeiaaGreatDoor

namespace Go.Proofs.YtjjhjhjphhpeiaaGreatDoor
open Go.RowKit
theorem fin_tmp_normal {P : Program} {S : St} {f : Fm} {K : D → St → Prop} (t : Tmp) (S' : St) : DQ.fin P [.tmp t] S K .normal f S' = DFinT P S S' (f t) K := by simp [DQ.fin, dresL, dres, onVal, one]
theorem fin_tmp_ret {P : Program} {S : St} {f : Fm} {K : D → St → Prop} (t : Tmp) (S' : St) : DQ.fin P [.tmp t] S K .ret f S' = DFinT P S S' (f t) K := by simp [DQ.fin, dresL, dres, onVal, one]
attribute [go_sem] fin_tmp_normal fin_tmp_ret
theorem fin_pure {S T : St} (hS : S.WF) {d : D} (hc : d.closed) (hs : S.Sub T) : DFin S T d (fun d' T' => d' = d ∧ T' = S) :=
  ⟨d, S, DLe.refl _, D.all_mono (fun _ h => h.elim) hc, hs.next, Nat.le_refl _, fun k o hk => ⟨hs.ob k o hk, hS.lt hk, fun _ _ _ => .inl hk⟩, rfl, rfl⟩
end Go.Proofs.YtjjhjhjphhpeiaaGreatDoor

namespace Go.Proofs.YtjjhjhjphhpeiaaGreatDoor
open Go.RowKit
theorem sv_beq (a b : Str) : ((strB a).toList == (strB b).toList) = decide (a = b) := by
  rw [Bool.eq_iff_iff]; simp [strB, Go.Lib.toList_data]
end Go.Proofs.YtjjhjhjphhpeiaaGreatDoor

namespace Go.Proofs.YtjjhjhjphhpeiaaGreatDoor
open Go.RowKit
theorem strContains_d (own : Own) (l : List Str) (x : Str) (hn : l.length ≤ 140737488351232) : DPure Tryz.prog 105 [.sl own (l.map strD), .v (sv x)] (.v (.bool (decide (x ∈ l)))) :=
  dpure_of_gives (fun _ _ => by kernel_rfl) fun w η X vs hr => by
    simp only [RepL] at hr
    obtain ⟨y, ys, rfl, h1, z, zs, rfl, h2, rfl⟩ := hr
    obtain ⟨A, c, rfl, hc, hf⟩ := strArg h1
    simp only [Rep] at h2
    subst h2
    exact (strContains_calls l x A c w hf hn).mono fun e w' ⟨he, hw⟩ => ⟨he, hw ▸ Below.refl _ _⟩
theorem strEqual_d (own own2 : Own) (l m : List Str) (hn : l.length ≤ 140737488351232) (hm : m.length ≤ 140737488351232) : DPure Tryz.prog 81 [.sl own (l.map strD), .sl own2 (m.map strD)] (.v (.bool (decide (l = m)))) :=
  dpure_of_gives (fun _ _ => by kernel_rfl) fun w η X vs hr => by
    simp only [RepL] at hr
    obtain ⟨y, ys, rfl, h1, z, zs, rfl, h2, rfl⟩ := hr
    obtain ⟨A, c, rfl, hc, hf⟩ := strArg h1
    obtain ⟨A2, c2, rfl, hc2, hf2⟩ := strArg h2
    exact strEqual_calls l m A A2 c c2 w hf hf2 hn hm
def fitsSt (v : DVal) (s : DSch) (S : St) : St := (S.add (.box 29 [.v (.int .i64 v.kind), .v (.int .i64 v.n), strD v.s, .sl .no (v.names.map strD), .sl .no (v.ids.map u64D), .sl .no (v.parts.map encV)])).add (.box 25 [.v (.int .i64 s.kind), .sl .no (s.words.map strD), .sl .no (s.parts.map encS)])
theorem fits_sub {S : St} (hS : S.WF) (v : DVal) (s : DSch) {n : Nat} (hn : S.next + 2 ≤ n) : S.Sub ⟨n, (fitsSt v s S).ob⟩ :=
  ⟨by show S.next ≤ n; omega, (((St.Sub.refl S).add hS _).add hS _).ob⟩
theorem fits_back {S : St} (hS : S.WF) (v : DVal) (s : DSch) {n : Nat} (hn : S.next + 2 ≤ n) (o o2 : Ob) : ∀ k o', (fitsSt v s S).ob k = some o' → ((St.add ⟨n, (fitsSt v s S).ob⟩ o).set n o2).ob k = some o' := fun k o' h => by
  have hk : k ≠ n := fun e => by
    subst e
    simp only [fitsSt, add_ob, add_next] at h
    rw [if_neg (by omega), if_neg (by omega), hS k (by omega)] at h
    cases h
  simp only [set_ob, add_ob]
  rw [if_neg hk, if_neg hk]
  exact h
structure FCut (v : DVal) (s : DSch) (S : St) (f : Fm) (T : St) : Prop where
  st : T = fitsSt v s S
  s2 : f 2 = .loc S.next 0
  s3 : f 3 = .loc (S.next + 1) 0
  s38 : f 38 = .v (.bool (!headF v s))
structure LF (k : Nat) (v : DVal) (s : DSch) (S : St) (f : Fm) (T : St) (i : Nat) : Prop where
  st : T.ob = (fitsSt v s S).ob
  nx : S.next + 2 ≤ T.next
  s2 : f 2 = .loc S.next 0
  s3 : f 3 = .loc (S.next + 1) 0
  s40 : f 40 = .sl .no (v.parts.map encV)
  s41 : f 41 = .v (.int .i64 v.parts.length)
  s42 : f 42 = .v (.int .i64 i)
  le : i ≤ v.parts.length
  ok : ∀ j, j < i → fitsV k (v.parts.getD j default) (s.parts.getD (atF s j) default) = true
def LFE (k : Nat) (v : DVal) (s : DSch) (S : St) (f : Fm) (T : St) : Prop := ∃ i, LF k v s S f T i
set_option maxRecDepth 200000 in
set_option maxHeartbeats 8000000 in
theorem fits_d (k : Nat) : ∀ (v : DVal) (s : DSch), v.depth ≤ k → okV v → okS s → RV v → RS s → DPure Tryz.prog 63 [encV v, encS s] (.v (.bool (fitsV k v s))) := by
  induction k with
  | zero => intro v s h; have := v.depth_pos; omega
  | succ k ih =>
    intro v s hk hov hos hv hs
    obtain ⟨o1, o2, o3, o4, o5, o6, o7, o8, o9⟩ := (okV_eq v).1 hov
    obtain ⟨p1, p2, p3, p4, p5⟩ := (okS_eq s).1 hos
    refine dpure_of_dwp mixed Tryz.func63 rfl (fun _ _ => by kernel_rfl) (rs := [.tmp 4]) rfl (by kernel_rfl) trivial (fun S hS => ?_)
    simp only [go_sem, add_ob, set_ob, encV_eq v, encS_eq s]
    refine cut_guard (FCut v s S) rfl ?_ ?_
    · intro f T h
      obtain rfl := h.st
      cases hh : headF v s with
      | false =>
        simp only [go_sem, add_ob, set_ob, h.s38, hh]
        exact ⟨by rw [fitsV, hh]; rfl, ((St.Sub.refl S).add hS _).add hS _⟩
      | true =>
        simp only [go_sem, add_ob, set_ob, h.s38, hh, h.s2, h.s3, fitsSt]
        refine dloop_mk (LFE k v s S) (fun f _ => v.parts.length - slotN (f 42)) ⟨0, ⟨rfl, Nat.le_refl _, by simp only [go_sem, add_ob, set_ob, h.s2], by simp only [go_sem, add_ob, set_ob, h.s3], by simp only [go_sem, add_ob, set_ob], by simp only [go_sem, add_ob, set_ob], by simp only [go_sem, add_ob, set_ob]; rfl, by omega, fun j hj => by omega⟩⟩ ?_
        rintro g ⟨tn, tob⟩ ⟨i, q⟩
        obtain rfl : tob = (fitsSt v s S).ob := q.st
        have nx : S.next + 2 ≤ tn := q.nx
        have e1 : (S.next = tn) = False := eq_false (by omega)
        have e2 : (S.next + 1 = tn) = False := eq_false (by omega)
        have e3 : (tn = S.next) = False := eq_false (by omega)
        have e4 : (tn = S.next + 1) = False := eq_false (by omega)
        by_cases hlt : i < v.parts.length
        · have b1 : decide ((i : Int) < (v.parts.length : Int)) = true := by simp; omega
          have hx := getD_map encV v.parts i hlt
          have c1 : (0 : Int) ≤ (i : Int) := by omega
          have c2 : (i : Int) < (v.parts.length : Int) := by omega
          have w1 : IntKind.i64.wrap ((i : Int) + 1) = (i : Int) + 1 := IntWalk.i64_in _ ⟨by omega, by omega⟩
          have hat := atF_lt hv hs hh hlt
          have hy := getD_map encS s.parts (atF s i) hat
          have c3 : (0 : Int) ≤ (atF s i : Int) := by omega
          have c4 : (atF s i : Int) < (s.parts.length : Int) := by omega
          have hd := DVal.depth_part (List.getElem_mem hlt)
          have hfit : fitsV k (v.parts.getD i default) (s.parts.getD (atF s i) default) = fitsV k v.parts[i] s.parts[atF s i] := by rw [getD_at hlt, getD_at hat]
          have hcall := ih v.parts[i] s.parts[atF s i] (by omega) (o9 _ (List.getElem_mem hlt)) (p5 _ (List.getElem_mem hat)) (hv.part (List.getElem_mem hlt)) (hs.part (List.getElem_mem hat))
          have hsub := fits_sub hS v s nx
          have hback := fits_back hS v s nx
          have next : fitsV k v.parts[i] s.parts[atF s i] = true → ∀ j, j < i + 1 → fitsV k (v.parts.getD j default) (s.parts.getD (atF s j) default) = true := fun hh j hj => by
            by_cases e : j = i
            · rw [e, hfit]; exact hh
            · exact q.ok j (by omega)
          have bad : fitsV k v.parts[i] s.parts[atF s i] = false → fitsV (k + 1) v s = false := fun hb => by
            simp only [fitsV]
            rw [all_not (p := fun i => fitsV k (v.parts.getD i default) (s.parts.getD (atF s i) default)) hlt (by rw [hfit]; exact hb), Bool.and_false]
          by_cases h6 : s.kind = 6
          · have b6 : (s.kind == 6) = true := by simp [h6]
            have ha : atF s i = 0 := by unfold atF; rw [if_pos h6]
            simp only [go_sem, add_ob, set_ob, q.s2, q.s3, q.s40, q.s41, q.s42, b1, hx, c1, c2, fitsSt, e1, e2, e3, e4, b6]
            have hy0 : (s.parts.map encS).getD 0 undefD = encS s.parts[atF s i] := by rw [← hy, ha]
            have c5 : (0 : Int) < (s.parts.length : Int) := by omega
            have c6 : (0 : Int) ≤ 0 := Int.le_refl _
            refine ddraw_mk 8 (by kernel_rfl) ?_
            simp only [go_sem, add_ob, set_ob, q.s3, e1, e2, e3, e4, hy0, c5, c6, Int.toNat_zero]
            refine dqgo_mk hcall ?_
            cases hf : fitsV k v.parts[i] s.parts[atF s i] with
            | false =>
              simp only [go_sem, add_ob, set_ob, hf]
              exact ⟨by rw [bad hf]; rfl, (hsub.add hS _).set hS (by omega) _⟩
            | true =>
              simp only [go_sem, add_ob, set_ob, hf, q.s42, w1]
              exact round_back (fitsSt v s S).ob (hback _ _) ⟨i + 1, ⟨rfl, Nat.le_succ_of_le nx, by simp only [go_sem, add_ob, set_ob, q.s2], by simp only [go_sem, add_ob, set_ob, q.s3], by simp only [go_sem, add_ob, set_ob, q.s40], by simp only [go_sem, add_ob, set_ob, q.s41], by simp only [go_sem, add_ob, set_ob]; rfl, by omega, next hf⟩⟩ (by simp only [go_sem, add_ob, set_ob]; omega)
          · have b6 : (s.kind == 6) = false := by simp [h6]
            have ha : atF s i = i := by unfold atF; rw [if_neg h6]
            have hy0 : (s.parts.map encS).getD i undefD = encS s.parts[atF s i] := by rw [← hy, ha]
            have c5 : (i : Int) < (s.parts.length : Int) := by omega
            simp only [go_sem, add_ob, set_ob, q.s2, q.s3, q.s40, q.s41, q.s42, b1, hx, c1, c2, fitsSt, e1, e2, e3, e4, b6]
            refine ddraw_mk 8 (by kernel_rfl) ?_
            simp only [go_sem, add_ob, set_ob, q.s3, e1, e2, e3, e4, hy0, c1, c5]
            refine dqgo_mk hcall ?_
            cases hf : fitsV k v.parts[i] s.parts[atF s i] with
            | false =>
              simp only [go_sem, add_ob, set_ob, hf]
              exact ⟨by rw [bad hf]; rfl, (hsub.add hS _).set hS (by omega) _⟩
            | true =>
              simp only [go_sem, add_ob, set_ob, hf, q.s42, w1]
              exact round_back (fitsSt v s S).ob (hback _ _) ⟨i + 1, ⟨rfl, Nat.le_succ_of_le nx, by simp only [go_sem, add_ob, set_ob, q.s2], by simp only [go_sem, add_ob, set_ob, q.s3], by simp only [go_sem, add_ob, set_ob, q.s40], by simp only [go_sem, add_ob, set_ob, q.s41], by simp only [go_sem, add_ob, set_ob]; rfl, by omega, next hf⟩⟩ (by simp only [go_sem, add_ob, set_ob]; omega)
        · have b1 : decide ((i : Int) < (v.parts.length : Int)) = false := by simp; omega
          simp only [go_sem, add_ob, set_ob, q.s2, q.s3, q.s40, q.s41, q.s42, b1]
          refine ⟨?_, fits_sub hS v s nx⟩
          rw [show fitsV (k + 1) v s = true by
            simp only [fitsV, hh, Bool.true_and]
            exact all_of fun j hj => q.ok j (by omega)]
          rfl
    · have hbad : headF v s = (decide (v.kind = s.kind) && ((!decide (v.kind = 4) || decide (v.s ∈ s.words)) && (!decide (v.kind = 5) || decide (v.names = s.words)))) := rfl
      by_cases hk1 : v.kind = s.kind
      · have b1 : (v.kind != s.kind) = false := by simp [hk1]
        by_cases hk4 : v.kind = 4
        · have b4 : (v.kind == 4) = true := by simp [hk4]
          have b5 : (v.kind == 5) = false := by simp [hk4]
          simp only [go_sem, add_ob, set_ob, b1, b4, b5]
          refine DCalls.of_pure (strContains_d .no s.words v.s p3) ?_
          have hb2 : headF v s = decide (v.s ∈ s.words) := by rw [hbad, decide_eq_true hk1, decide_eq_true hk4, decide_eq_false (show ¬ v.kind = 5 by omega)]; simp
          cases hm : decide (v.s ∈ s.words) with
          | false => simp only [go_sem, add_ob, set_ob, b5]; exact ⟨rfl, by simp only [go_sem, add_ob, set_ob], by simp only [go_sem, add_ob, set_ob], by simp only [go_sem, add_ob, set_ob, hb2, hm]⟩
          | true => simp only [go_sem, add_ob, set_ob, b5]; exact ⟨rfl, by simp only [go_sem, add_ob, set_ob], by simp only [go_sem, add_ob, set_ob], by simp only [go_sem, add_ob, set_ob, hb2, hm]⟩
        · have b4 : (v.kind == 4) = false := by simp [hk4]
          by_cases hk5 : v.kind = 5
          · have b5 : (v.kind == 5) = true := by simp [hk5]
            simp only [go_sem, add_ob, set_ob, b1, b4, b5]
            refine DCalls.of_pure (strEqual_d .no .no v.names s.words o5 p3) ?_
            have hb2 : headF v s = decide (v.names = s.words) := by rw [hbad, decide_eq_true hk1, decide_eq_false hk4, decide_eq_true hk5]; simp
            cases hm : decide (v.names = s.words) with
            | false => simp only [go_sem, add_ob, set_ob]; exact ⟨rfl, by simp only [go_sem, add_ob, set_ob], by simp only [go_sem, add_ob, set_ob], by simp only [go_sem, add_ob, set_ob, hb2, hm]⟩
            | true => simp only [go_sem, add_ob, set_ob]; exact ⟨rfl, by simp only [go_sem, add_ob, set_ob], by simp only [go_sem, add_ob, set_ob], by simp only [go_sem, add_ob, set_ob, hb2, hm]⟩
          · have b5 : (v.kind == 5) = false := by simp [hk5]
            have hb2 : headF v s = true := by rw [hbad, decide_eq_true hk1, decide_eq_false hk4, decide_eq_false hk5]; simp
            simp only [go_sem, add_ob, set_ob, b1, b4, b5]
            exact ⟨rfl, by simp only [go_sem, add_ob, set_ob], by simp only [go_sem, add_ob, set_ob], by simp only [go_sem, add_ob, set_ob, hb2]⟩
      · have b1 : (v.kind != s.kind) = true := by simp [hk1]
        have hb2 : headF v s = false := by rw [hbad, decide_eq_false hk1]; rfl
        simp only [go_sem, add_ob, set_ob, b1]
        exact ⟨rfl, by simp only [go_sem, add_ob, set_ob], by simp only [go_sem, add_ob, set_ob], by simp only [go_sem, add_ob, set_ob, hb2]⟩
end Go.Proofs.YtjjhjhjphhpeiaaGreatDoor

namespace Go.Proofs.YtjjhjhjphhpeiaaGreatDoor
open Go.RowKit
theorem RS.of_right {v : DSch} (h : rightS 5 v = true) : soundS v.depth v = true := by
  have := right_sound 5 v v.depth (Nat.le_refl _)
  rw [h] at this
  exact (Bool.and_eq_true _ _ ▸ this.symm).2
def fitsTop (v : DVal) (s : DSch) : Bool := rightV 5 v && (rightS 5 s && fitsV v.depth v s)
end Go.Proofs.YtjjhjhjphhpeiaaGreatDoor

namespace Go.Proofs.YtjjhjhjphhpeiaaGreatDoor
open Go.RowKit
theorem schRight_d (v : DSch) (hok : okS v) : DPure Tryz.prog 30 [encS v] (.v (.bool (rightS 5 v))) := dpure_sch hok (fun _ _ => by kernel_rfl) fun w cs h => schRightP_calls v cs w h
set_option maxRecDepth 200000 in
set_option maxHeartbeats 4000000 in
theorem fitsTop_d (v : DVal) (s : DSch) (hov : okV v) (hos : okS s) : DPure Tryz.prog 31 [encV v, encS s] (.v (.bool (fitsTop v s))) := by
  refine dpure_of_dwp mixed Tryz.func31 rfl (fun _ _ => by kernel_rfl) (rs := [.tmp 4]) rfl (by kernel_rfl) trivial (fun S hS => ?_)
  have hsub := fun o o2 => ((St.Sub.refl S).add hS o).add hS o2
  simp only [go_sem, add_ob, set_ob]
  refine DCalls.of_pure (valRight_d v hov) ?_
  cases h1 : rightV 5 v with
  | false =>
    simp only [go_sem, add_ob, set_ob]
    exact ⟨by rw [fitsTop, h1]; rfl, hsub _ _⟩
  | true =>
    simp only [go_sem, add_ob, set_ob]
    refine DCalls.of_pure (schRight_d s hos) ?_
    cases h2 : rightS 5 s with
    | false =>
      simp only [go_sem, add_ob, set_ob]
      exact ⟨by rw [fitsTop, h1, h2]; rfl, hsub _ _⟩
    | true =>
      simp only [go_sem, add_ob, set_ob]
      refine DCalls.of_pure (fits_d v.depth v s (Nat.le_refl _) hov hos (RV.of_right h1) ⟨_, Nat.le_refl _, RS.of_right h2⟩) ?_
      simp only [go_sem, add_ob, set_ob]
      exact ⟨by rw [fitsTop, h1, h2]; rfl, hsub _ _⟩
end Go.Proofs.YtjjhjhjphhpeiaaGreatDoor
