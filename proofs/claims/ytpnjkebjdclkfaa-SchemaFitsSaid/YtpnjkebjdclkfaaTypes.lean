/- Closed facts on the types of this seat. Conditions: none. -/
import Derived.Test.YtpnjkebjdclkfaaTs
import Derived.Test.YtpnjkebjdclkfaaProg
import Derived.KernelRfl
namespace Go.Proofs.Ytpnjkebjdclkfaa

@[go_sem] theorem okT_1 : okT Try.prog 1 = true := by kernel_rfl
@[go_sem] theorem szOf_1 : szOf Try.prog 1 = 1 := by kernel_rfl
@[go_sem] theorem aggT_1 : aggT Try.prog 1 = false := by kernel_rfl
@[go_sem] theorem undS_1 : (Try.prog.underlying 1).isSome = true := by kernel_rfl
@[go_sem] theorem infS_1 : (Try.prog.info? 1).isSome = true := by kernel_rfl
@[go_sem] theorem ifaceT_1 : ifaceT Try.prog 1 = false := by kernel_rfl
@[go_sem] theorem zeroT_1 : zeroT Try.prog 1 = true := by kernel_rfl
@[go_sem] theorem zeroOk_1 : zeroOk Try.prog 1 = true := by kernel_rfl
@[go_sem] theorem bytesOf_1 : bytesOf Try.prog 1 = 8 := by kernel_rfl
@[go_sem] theorem zeroD_1 : zeroD Try.prog 1 = [.v .nilFunc] := by kernel_rfl
@[go_sem] theorem okT_2 : okT Try.prog 2 = true := by kernel_rfl
@[go_sem] theorem szOf_2 : szOf Try.prog 2 = 1 := by kernel_rfl
@[go_sem] theorem aggT_2 : aggT Try.prog 2 = false := by kernel_rfl
@[go_sem] theorem undS_2 : (Try.prog.underlying 2).isSome = true := by kernel_rfl
@[go_sem] theorem infS_2 : (Try.prog.info? 2).isSome = true := by kernel_rfl
@[go_sem] theorem ifaceT_2 : ifaceT Try.prog 2 = false := by kernel_rfl
@[go_sem] theorem zeroT_2 : zeroT Try.prog 2 = true := by kernel_rfl
@[go_sem] theorem zeroOk_2 : zeroOk Try.prog 2 = true := by kernel_rfl
@[go_sem] theorem bytesOf_2 : bytesOf Try.prog 2 = 8 := by kernel_rfl
@[go_sem] theorem zeroD_2 : zeroD Try.prog 2 = [.v (.int .i64 0)] := by kernel_rfl
@[go_sem] theorem okT_3 : okT Try.prog 3 = true := by kernel_rfl
@[go_sem] theorem szOf_3 : szOf Try.prog 3 = 1 := by kernel_rfl
@[go_sem] theorem aggT_3 : aggT Try.prog 3 = false := by kernel_rfl
@[go_sem] theorem undS_3 : (Try.prog.underlying 3).isSome = true := by kernel_rfl
@[go_sem] theorem infS_3 : (Try.prog.info? 3).isSome = true := by kernel_rfl
@[go_sem] theorem ifaceT_3 : ifaceT Try.prog 3 = false := by kernel_rfl
@[go_sem] theorem zeroT_3 : zeroT Try.prog 3 = true := by kernel_rfl
@[go_sem] theorem zeroOk_3 : zeroOk Try.prog 3 = true := by kernel_rfl
@[go_sem] theorem bytesOf_3 : bytesOf Try.prog 3 = 8 := by kernel_rfl
@[go_sem] theorem zeroD_3 : zeroD Try.prog 3 = [.v (.int .i64 0)] := by kernel_rfl
@[go_sem] theorem okT_4 : okT Try.prog 4 = true := by kernel_rfl
@[go_sem] theorem szOf_4 : szOf Try.prog 4 = 1 := by kernel_rfl
@[go_sem] theorem aggT_4 : aggT Try.prog 4 = false := by kernel_rfl
@[go_sem] theorem undS_4 : (Try.prog.underlying 4).isSome = true := by kernel_rfl
@[go_sem] theorem infS_4 : (Try.prog.info? 4).isSome = true := by kernel_rfl
@[go_sem] theorem ifaceT_4 : ifaceT Try.prog 4 = false := by kernel_rfl
@[go_sem] theorem zeroT_4 : zeroT Try.prog 4 = true := by kernel_rfl
@[go_sem] theorem zeroOk_4 : zeroOk Try.prog 4 = true := by kernel_rfl
@[go_sem] theorem bytesOf_4 : bytesOf Try.prog 4 = 1 := by kernel_rfl
@[go_sem] theorem zeroD_4 : zeroD Try.prog 4 = [.v (.bool false)] := by kernel_rfl
@[go_sem] theorem okT_5 : okT Try.prog 5 = true := by kernel_rfl
@[go_sem] theorem szOf_5 : szOf Try.prog 5 = 1 := by kernel_rfl
@[go_sem] theorem aggT_5 : aggT Try.prog 5 = false := by kernel_rfl
@[go_sem] theorem undS_5 : (Try.prog.underlying 5).isSome = true := by kernel_rfl
@[go_sem] theorem infS_5 : (Try.prog.info? 5).isSome = true := by kernel_rfl
@[go_sem] theorem ifaceT_5 : ifaceT Try.prog 5 = false := by kernel_rfl
@[go_sem] theorem zeroT_5 : zeroT Try.prog 5 = true := by kernel_rfl
@[go_sem] theorem zeroOk_5 : zeroOk Try.prog 5 = true := by kernel_rfl
@[go_sem] theorem bytesOf_5 : bytesOf Try.prog 5 = 1 := by kernel_rfl
@[go_sem] theorem zeroD_5 : zeroD Try.prog 5 = [.v (.int .u8 0)] := by kernel_rfl
@[go_sem] theorem okT_6 : okT Try.prog 6 = true := by kernel_rfl
@[go_sem] theorem szOf_6 : szOf Try.prog 6 = 1 := by kernel_rfl
@[go_sem] theorem aggT_6 : aggT Try.prog 6 = false := by kernel_rfl
@[go_sem] theorem undS_6 : (Try.prog.underlying 6).isSome = true := by kernel_rfl
@[go_sem] theorem infS_6 : (Try.prog.info? 6).isSome = true := by kernel_rfl
@[go_sem] theorem ifaceT_6 : ifaceT Try.prog 6 = false := by kernel_rfl
@[go_sem] theorem zeroT_6 : zeroT Try.prog 6 = true := by kernel_rfl
@[go_sem] theorem zeroOk_6 : zeroOk Try.prog 6 = true := by kernel_rfl
@[go_sem] theorem bytesOf_6 : bytesOf Try.prog 6 = 1 := by kernel_rfl
@[go_sem] theorem zeroD_6 : zeroD Try.prog 6 = [.v (.int .u8 0)] := by kernel_rfl
@[go_sem] theorem okT_7 : okT Try.prog 7 = true := by kernel_rfl
@[go_sem] theorem szOf_7 : szOf Try.prog 7 = 4 := by kernel_rfl
@[go_sem] theorem aggT_7 : aggT Try.prog 7 = true := by kernel_rfl
@[go_sem] theorem undS_7 : (Try.prog.underlying 7).isSome = true := by kernel_rfl
@[go_sem] theorem infS_7 : (Try.prog.info? 7).isSome = true := by kernel_rfl
@[go_sem] theorem ifaceT_7 : ifaceT Try.prog 7 = false := by kernel_rfl
@[go_sem] theorem zeroT_7 : zeroT Try.prog 7 = true := by kernel_rfl
@[go_sem] theorem zeroOk_7 : zeroOk Try.prog 7 = true := by kernel_rfl
@[go_sem] theorem bytesOf_7 : bytesOf Try.prog 7 = 24 := by kernel_rfl
@[go_sem] theorem zeroD_7 : zeroD Try.prog 7 = [.v (.int .i64 0), .v (.int .i64 0), .v (.bool false), .v (.int .u8 0)] := by kernel_rfl
@[go_sem] theorem fld_7_0 : fld Try.prog 7 0 = some (0, 2) := by kernel_rfl
@[go_sem] theorem fld_7_1 : fld Try.prog 7 1 = some (1, 3) := by kernel_rfl
@[go_sem] theorem fld_7_2 : fld Try.prog 7 2 = some (2, 4) := by kernel_rfl
@[go_sem] theorem fld_7_3 : fld Try.prog 7 3 = some (3, 6) := by kernel_rfl
noncomputable def pl7 : Nat → Option (Nat × Nat) := (placeT Try.prog 7).getD fun _ => none
@[go_sem] theorem placeT_7 : placeT Try.prog 7 = some pl7 := by kernel_rfl
@[go_sem] theorem pl_7_0 : pl7 0 = some (0, 1) := by kernel_rfl
@[go_sem] theorem pl_7_1 : pl7 1 = some (1, 1) := by kernel_rfl
@[go_sem] theorem pl_7_2 : pl7 2 = some (2, 1) := by kernel_rfl
@[go_sem] theorem pl_7_3 : pl7 3 = some (3, 1) := by kernel_rfl
@[go_sem] theorem okT_8 : okT Try.prog 8 = true := by kernel_rfl
@[go_sem] theorem szOf_8 : szOf Try.prog 8 = 4 := by kernel_rfl
@[go_sem] theorem aggT_8 : aggT Try.prog 8 = true := by kernel_rfl
@[go_sem] theorem undS_8 : (Try.prog.underlying 8).isSome = true := by kernel_rfl
@[go_sem] theorem infS_8 : (Try.prog.info? 8).isSome = true := by kernel_rfl
@[go_sem] theorem ifaceT_8 : ifaceT Try.prog 8 = false := by kernel_rfl
@[go_sem] theorem zeroT_8 : zeroT Try.prog 8 = true := by kernel_rfl
@[go_sem] theorem zeroOk_8 : zeroOk Try.prog 8 = true := by kernel_rfl
@[go_sem] theorem bytesOf_8 : bytesOf Try.prog 8 = 24 := by kernel_rfl
@[go_sem] theorem zeroD_8 : zeroD Try.prog 8 = [.v (.int .i64 0), .v (.int .i64 0), .v (.bool false), .v (.int .u8 0)] := by kernel_rfl
@[go_sem] theorem fld_8_0 : fld Try.prog 8 0 = some (0, 2) := by kernel_rfl
@[go_sem] theorem fld_8_1 : fld Try.prog 8 1 = some (1, 3) := by kernel_rfl
@[go_sem] theorem fld_8_2 : fld Try.prog 8 2 = some (2, 4) := by kernel_rfl
@[go_sem] theorem fld_8_3 : fld Try.prog 8 3 = some (3, 6) := by kernel_rfl
noncomputable def pl8 : Nat → Option (Nat × Nat) := (placeT Try.prog 8).getD fun _ => none
@[go_sem] theorem placeT_8 : placeT Try.prog 8 = some pl8 := by kernel_rfl
@[go_sem] theorem pl_8_0 : pl8 0 = some (0, 1) := by kernel_rfl
@[go_sem] theorem pl_8_1 : pl8 1 = some (1, 1) := by kernel_rfl
@[go_sem] theorem pl_8_2 : pl8 2 = some (2, 1) := by kernel_rfl
@[go_sem] theorem pl_8_3 : pl8 3 = some (3, 1) := by kernel_rfl
@[go_sem] theorem okT_9 : okT Try.prog 9 = true := by kernel_rfl
@[go_sem] theorem szOf_9 : szOf Try.prog 9 = 1 := by kernel_rfl
@[go_sem] theorem aggT_9 : aggT Try.prog 9 = false := by kernel_rfl
@[go_sem] theorem undS_9 : (Try.prog.underlying 9).isSome = true := by kernel_rfl
@[go_sem] theorem infS_9 : (Try.prog.info? 9).isSome = true := by kernel_rfl
@[go_sem] theorem ifaceT_9 : ifaceT Try.prog 9 = false := by kernel_rfl
@[go_sem] theorem zeroT_9 : zeroT Try.prog 9 = true := by kernel_rfl
@[go_sem] theorem zeroOk_9 : zeroOk Try.prog 9 = true := by kernel_rfl
@[go_sem] theorem bytesOf_9 : bytesOf Try.prog 9 = 16 := by kernel_rfl
@[go_sem] theorem zeroD_9 : zeroD Try.prog 9 = [.v (.string ⟨#[]⟩)] := by kernel_rfl
@[go_sem] theorem strT_9 : strT Try.prog 9 = true := by kernel_rfl
@[go_sem] theorem bul_9 (s : ByteArray) (ty : TypeId) (cs : Array Bool) : dbuiltin Try.prog .len #[9] ty cs [.v (.string s)] = some (True, .v (.int .i64 s.size)) := bu_slen s _ ty cs strT_9
@[go_sem] theorem okT_10 : okT Try.prog 10 = true := by kernel_rfl
@[go_sem] theorem szOf_10 : szOf Try.prog 10 = 1 := by kernel_rfl
@[go_sem] theorem aggT_10 : aggT Try.prog 10 = false := by kernel_rfl
@[go_sem] theorem undS_10 : (Try.prog.underlying 10).isSome = true := by kernel_rfl
@[go_sem] theorem infS_10 : (Try.prog.info? 10).isSome = true := by kernel_rfl
@[go_sem] theorem ifaceT_10 : ifaceT Try.prog 10 = false := by kernel_rfl
@[go_sem] theorem zeroT_10 : zeroT Try.prog 10 = true := by kernel_rfl
@[go_sem] theorem zeroOk_10 : zeroOk Try.prog 10 = true := by kernel_rfl
@[go_sem] theorem bytesOf_10 : bytesOf Try.prog 10 = 16 := by kernel_rfl
@[go_sem] theorem zeroD_10 : zeroD Try.prog 10 = [.v (.string ⟨#[]⟩)] := by kernel_rfl
@[go_sem] theorem strT_10 : strT Try.prog 10 = true := by kernel_rfl
@[go_sem] theorem bul_10 (s : ByteArray) (ty : TypeId) (cs : Array Bool) : dbuiltin Try.prog .len #[10] ty cs [.v (.string s)] = some (True, .v (.int .i64 s.size)) := bu_slen s _ ty cs strT_10
@[go_sem] theorem okT_11 : okT Try.prog 11 = true := by kernel_rfl
@[go_sem] theorem szOf_11 : szOf Try.prog 11 = 1 := by kernel_rfl
@[go_sem] theorem aggT_11 : aggT Try.prog 11 = false := by kernel_rfl
@[go_sem] theorem undS_11 : (Try.prog.underlying 11).isSome = true := by kernel_rfl
@[go_sem] theorem infS_11 : (Try.prog.info? 11).isSome = true := by kernel_rfl
@[go_sem] theorem ifaceT_11 : ifaceT Try.prog 11 = false := by kernel_rfl
@[go_sem] theorem zeroT_11 : zeroT Try.prog 11 = true := by kernel_rfl
@[go_sem] theorem zeroOk_11 : zeroOk Try.prog 11 = true := by kernel_rfl
@[go_sem] theorem bytesOf_11 : bytesOf Try.prog 11 = 16 := by kernel_rfl
@[go_sem] theorem zeroD_11 : zeroD Try.prog 11 = [.v (.string ⟨#[]⟩)] := by kernel_rfl
@[go_sem] theorem strT_11 : strT Try.prog 11 = true := by kernel_rfl
@[go_sem] theorem bul_11 (s : ByteArray) (ty : TypeId) (cs : Array Bool) : dbuiltin Try.prog .len #[11] ty cs [.v (.string s)] = some (True, .v (.int .i64 s.size)) := bu_slen s _ ty cs strT_11
@[go_sem] theorem okT_12 : okT Try.prog 12 = true := by kernel_rfl
@[go_sem] theorem szOf_12 : szOf Try.prog 12 = 1 := by kernel_rfl
@[go_sem] theorem aggT_12 : aggT Try.prog 12 = false := by kernel_rfl
@[go_sem] theorem undS_12 : (Try.prog.underlying 12).isSome = true := by kernel_rfl
@[go_sem] theorem infS_12 : (Try.prog.info? 12).isSome = true := by kernel_rfl
@[go_sem] theorem ifaceT_12 : ifaceT Try.prog 12 = false := by kernel_rfl
@[go_sem] theorem zeroT_12 : zeroT Try.prog 12 = true := by kernel_rfl
@[go_sem] theorem zeroOk_12 : zeroOk Try.prog 12 = true := by kernel_rfl
@[go_sem] theorem bytesOf_12 : bytesOf Try.prog 12 = 8 := by kernel_rfl
@[go_sem] theorem zeroD_12 : zeroD Try.prog 12 = [.v (.int .u64 0)] := by kernel_rfl
@[go_sem] theorem okT_13 : okT Try.prog 13 = true := by kernel_rfl
@[go_sem] theorem szOf_13 : szOf Try.prog 13 = 2 := by kernel_rfl
@[go_sem] theorem aggT_13 : aggT Try.prog 13 = true := by kernel_rfl
@[go_sem] theorem undS_13 : (Try.prog.underlying 13).isSome = true := by kernel_rfl
@[go_sem] theorem infS_13 : (Try.prog.info? 13).isSome = true := by kernel_rfl
@[go_sem] theorem ifaceT_13 : ifaceT Try.prog 13 = false := by kernel_rfl
@[go_sem] theorem zeroT_13 : zeroT Try.prog 13 = true := by kernel_rfl
@[go_sem] theorem zeroOk_13 : zeroOk Try.prog 13 = true := by kernel_rfl
@[go_sem] theorem bytesOf_13 : bytesOf Try.prog 13 = 24 := by kernel_rfl
@[go_sem] theorem zeroD_13 : zeroD Try.prog 13 = [.v (.string ⟨#[]⟩), .v (.int .u64 0)] := by kernel_rfl
@[go_sem] theorem fld_13_0 : fld Try.prog 13 0 = some (0, 9) := by kernel_rfl
@[go_sem] theorem fld_13_1 : fld Try.prog 13 1 = some (1, 12) := by kernel_rfl
noncomputable def pl13 : Nat → Option (Nat × Nat) := (placeT Try.prog 13).getD fun _ => none
@[go_sem] theorem placeT_13 : placeT Try.prog 13 = some pl13 := by kernel_rfl
@[go_sem] theorem pl_13_0 : pl13 0 = some (0, 1) := by kernel_rfl
@[go_sem] theorem pl_13_1 : pl13 1 = some (1, 1) := by kernel_rfl
@[go_sem] theorem okT_14 : okT Try.prog 14 = true := by kernel_rfl
@[go_sem] theorem szOf_14 : szOf Try.prog 14 = 2 := by kernel_rfl
@[go_sem] theorem aggT_14 : aggT Try.prog 14 = true := by kernel_rfl
@[go_sem] theorem undS_14 : (Try.prog.underlying 14).isSome = true := by kernel_rfl
@[go_sem] theorem infS_14 : (Try.prog.info? 14).isSome = true := by kernel_rfl
@[go_sem] theorem ifaceT_14 : ifaceT Try.prog 14 = false := by kernel_rfl
@[go_sem] theorem zeroT_14 : zeroT Try.prog 14 = true := by kernel_rfl
@[go_sem] theorem zeroOk_14 : zeroOk Try.prog 14 = true := by kernel_rfl
@[go_sem] theorem bytesOf_14 : bytesOf Try.prog 14 = 24 := by kernel_rfl
@[go_sem] theorem zeroD_14 : zeroD Try.prog 14 = [.v (.string ⟨#[]⟩), .v (.int .u64 0)] := by kernel_rfl
@[go_sem] theorem fld_14_0 : fld Try.prog 14 0 = some (0, 9) := by kernel_rfl
@[go_sem] theorem fld_14_1 : fld Try.prog 14 1 = some (1, 12) := by kernel_rfl
noncomputable def pl14 : Nat → Option (Nat × Nat) := (placeT Try.prog 14).getD fun _ => none
@[go_sem] theorem placeT_14 : placeT Try.prog 14 = some pl14 := by kernel_rfl
@[go_sem] theorem pl_14_0 : pl14 0 = some (0, 1) := by kernel_rfl
@[go_sem] theorem pl_14_1 : pl14 1 = some (1, 1) := by kernel_rfl
@[go_sem] theorem okT_15 : okT Try.prog 15 = true := by kernel_rfl
@[go_sem] theorem szOf_15 : szOf Try.prog 15 = 1 := by kernel_rfl
@[go_sem] theorem aggT_15 : aggT Try.prog 15 = false := by kernel_rfl
@[go_sem] theorem undS_15 : (Try.prog.underlying 15).isSome = true := by kernel_rfl
@[go_sem] theorem infS_15 : (Try.prog.info? 15).isSome = true := by kernel_rfl
@[go_sem] theorem ifaceT_15 : ifaceT Try.prog 15 = false := by kernel_rfl
@[go_sem] theorem zeroT_15 : zeroT Try.prog 15 = true := by kernel_rfl
@[go_sem] theorem zeroOk_15 : zeroOk Try.prog 15 = true := by kernel_rfl
@[go_sem] theorem bytesOf_15 : bytesOf Try.prog 15 = 8 := by kernel_rfl
@[go_sem] theorem zeroD_15 : zeroD Try.prog 15 = [.v (.pointer none)] := by kernel_rfl
@[go_sem] theorem okT_17 : okT Try.prog 17 = true := by kernel_rfl
@[go_sem] theorem szOf_17 : szOf Try.prog 17 = 1 := by kernel_rfl
@[go_sem] theorem aggT_17 : aggT Try.prog 17 = false := by kernel_rfl
@[go_sem] theorem undS_17 : (Try.prog.underlying 17).isSome = true := by kernel_rfl
@[go_sem] theorem infS_17 : (Try.prog.info? 17).isSome = true := by kernel_rfl
@[go_sem] theorem ifaceT_17 : ifaceT Try.prog 17 = false := by kernel_rfl
@[go_sem] theorem zeroT_17 : zeroT Try.prog 17 = true := by kernel_rfl
@[go_sem] theorem zeroOk_17 : zeroOk Try.prog 17 = true := by kernel_rfl
@[go_sem] theorem bytesOf_17 : bytesOf Try.prog 17 = 8 := by kernel_rfl
@[go_sem] theorem zeroD_17 : zeroD Try.prog 17 = [.v (.pointer none)] := by kernel_rfl
@[go_sem] theorem okT_18 : okT Try.prog 18 = true := by kernel_rfl
@[go_sem] theorem szOf_18 : szOf Try.prog 18 = 1 := by kernel_rfl
@[go_sem] theorem aggT_18 : aggT Try.prog 18 = true := by kernel_rfl
@[go_sem] theorem undS_18 : (Try.prog.underlying 18).isSome = true := by kernel_rfl
@[go_sem] theorem infS_18 : (Try.prog.info? 18).isSome = true := by kernel_rfl
@[go_sem] theorem ifaceT_18 : ifaceT Try.prog 18 = false := by kernel_rfl
@[go_sem] theorem zeroT_18 : zeroT Try.prog 18 = true := by kernel_rfl
@[go_sem] theorem zeroOk_18 : zeroOk Try.prog 18 = true := by kernel_rfl
@[go_sem] theorem bytesOf_18 : bytesOf Try.prog 18 = 8 := by kernel_rfl
@[go_sem] theorem zeroD_18 : zeroD Try.prog 18 = [.v (.pointer none)] := by kernel_rfl
@[go_sem] theorem fld_18_0 : fld Try.prog 18 0 = some (0, 17) := by kernel_rfl
noncomputable def pl18 : Nat → Option (Nat × Nat) := (placeT Try.prog 18).getD fun _ => none
@[go_sem] theorem placeT_18 : placeT Try.prog 18 = some pl18 := by kernel_rfl
@[go_sem] theorem pl_18_0 : pl18 0 = some (0, 1) := by kernel_rfl
@[go_sem] theorem okT_19 : okT Try.prog 19 = true := by kernel_rfl
@[go_sem] theorem szOf_19 : szOf Try.prog 19 = 1 := by kernel_rfl
@[go_sem] theorem aggT_19 : aggT Try.prog 19 = true := by kernel_rfl
@[go_sem] theorem undS_19 : (Try.prog.underlying 19).isSome = true := by kernel_rfl
@[go_sem] theorem infS_19 : (Try.prog.info? 19).isSome = true := by kernel_rfl
@[go_sem] theorem ifaceT_19 : ifaceT Try.prog 19 = false := by kernel_rfl
@[go_sem] theorem zeroT_19 : zeroT Try.prog 19 = true := by kernel_rfl
@[go_sem] theorem zeroOk_19 : zeroOk Try.prog 19 = true := by kernel_rfl
@[go_sem] theorem bytesOf_19 : bytesOf Try.prog 19 = 8 := by kernel_rfl
@[go_sem] theorem zeroD_19 : zeroD Try.prog 19 = [.v (.pointer none)] := by kernel_rfl
@[go_sem] theorem fld_19_0 : fld Try.prog 19 0 = some (0, 17) := by kernel_rfl
noncomputable def pl19 : Nat → Option (Nat × Nat) := (placeT Try.prog 19).getD fun _ => none
@[go_sem] theorem placeT_19 : placeT Try.prog 19 = some pl19 := by kernel_rfl
@[go_sem] theorem pl_19_0 : pl19 0 = some (0, 1) := by kernel_rfl
@[go_sem] theorem okT_20 : okT Try.prog 20 = true := by kernel_rfl
@[go_sem] theorem szOf_20 : szOf Try.prog 20 = 1 := by kernel_rfl
@[go_sem] theorem aggT_20 : aggT Try.prog 20 = false := by kernel_rfl
@[go_sem] theorem undS_20 : (Try.prog.underlying 20).isSome = true := by kernel_rfl
@[go_sem] theorem infS_20 : (Try.prog.info? 20).isSome = true := by kernel_rfl
@[go_sem] theorem ifaceT_20 : ifaceT Try.prog 20 = true := by kernel_rfl
@[go_sem] theorem zeroT_20 : zeroT Try.prog 20 = true := by kernel_rfl
@[go_sem] theorem zeroOk_20 : zeroOk Try.prog 20 = true := by kernel_rfl
@[go_sem] theorem bytesOf_20 : bytesOf Try.prog 20 = 16 := by kernel_rfl
@[go_sem] theorem zeroD_20 : zeroD Try.prog 20 = [.v .nilIface] := by kernel_rfl
@[go_sem] theorem okT_22 : okT Try.prog 22 = true := by kernel_rfl
@[go_sem] theorem szOf_22 : szOf Try.prog 22 = 1 := by kernel_rfl
@[go_sem] theorem aggT_22 : aggT Try.prog 22 = false := by kernel_rfl
@[go_sem] theorem undS_22 : (Try.prog.underlying 22).isSome = true := by kernel_rfl
@[go_sem] theorem infS_22 : (Try.prog.info? 22).isSome = true := by kernel_rfl
@[go_sem] theorem ifaceT_22 : ifaceT Try.prog 22 = false := by kernel_rfl
@[go_sem] theorem zeroT_22 : zeroT Try.prog 22 = true := by kernel_rfl
@[go_sem] theorem zeroOk_22 : zeroOk Try.prog 22 = true := by kernel_rfl
@[go_sem] theorem bytesOf_22 : bytesOf Try.prog 22 = 24 := by kernel_rfl
@[go_sem] theorem zeroD_22 : zeroD Try.prog 22 = [.sl .full []] := by kernel_rfl
@[go_sem] theorem elT_22 : elT Try.prog 22 = some 9 := by kernel_rfl
@[go_sem] theorem bul_22 (own : Own) (es : List D) (ty : TypeId) (cs : Array Bool) : dbuiltin Try.prog .len #[22] ty cs [.sl own es] = some (True, .v (.int .i64 es.length)) := bu_len own es _ ty cs elT_22
@[go_sem] theorem okT_23 : okT Try.prog 23 = true := by kernel_rfl
@[go_sem] theorem szOf_23 : szOf Try.prog 23 = 1 := by kernel_rfl
@[go_sem] theorem aggT_23 : aggT Try.prog 23 = false := by kernel_rfl
@[go_sem] theorem undS_23 : (Try.prog.underlying 23).isSome = true := by kernel_rfl
@[go_sem] theorem infS_23 : (Try.prog.info? 23).isSome = true := by kernel_rfl
@[go_sem] theorem ifaceT_23 : ifaceT Try.prog 23 = false := by kernel_rfl
@[go_sem] theorem zeroT_23 : zeroT Try.prog 23 = true := by kernel_rfl
@[go_sem] theorem zeroOk_23 : zeroOk Try.prog 23 = true := by kernel_rfl
@[go_sem] theorem bytesOf_23 : bytesOf Try.prog 23 = 24 := by kernel_rfl
@[go_sem] theorem zeroD_23 : zeroD Try.prog 23 = [.sl .full []] := by kernel_rfl
@[go_sem] theorem elT_23 : elT Try.prog 23 = some 25 := by kernel_rfl
@[go_sem] theorem bul_23 (own : Own) (es : List D) (ty : TypeId) (cs : Array Bool) : dbuiltin Try.prog .len #[23] ty cs [.sl own es] = some (True, .v (.int .i64 es.length)) := bu_len own es _ ty cs elT_23
@[go_sem] theorem okT_25 : okT Try.prog 25 = true := by kernel_rfl
@[go_sem] theorem szOf_25 : szOf Try.prog 25 = 3 := by kernel_rfl
@[go_sem] theorem aggT_25 : aggT Try.prog 25 = true := by kernel_rfl
@[go_sem] theorem undS_25 : (Try.prog.underlying 25).isSome = true := by kernel_rfl
@[go_sem] theorem infS_25 : (Try.prog.info? 25).isSome = true := by kernel_rfl
@[go_sem] theorem ifaceT_25 : ifaceT Try.prog 25 = false := by kernel_rfl
@[go_sem] theorem zeroT_25 : zeroT Try.prog 25 = true := by kernel_rfl
@[go_sem] theorem zeroOk_25 : zeroOk Try.prog 25 = true := by kernel_rfl
@[go_sem] theorem bytesOf_25 : bytesOf Try.prog 25 = 56 := by kernel_rfl
@[go_sem] theorem zeroD_25 : zeroD Try.prog 25 = [.v (.int .i64 0), .sl .full [], .sl .full []] := by kernel_rfl
@[go_sem] theorem fld_25_0 : fld Try.prog 25 0 = some (0, 3) := by kernel_rfl
@[go_sem] theorem fld_25_1 : fld Try.prog 25 1 = some (1, 22) := by kernel_rfl
@[go_sem] theorem fld_25_2 : fld Try.prog 25 2 = some (2, 23) := by kernel_rfl
noncomputable def pl25 : Nat → Option (Nat × Nat) := (placeT Try.prog 25).getD fun _ => none
@[go_sem] theorem placeT_25 : placeT Try.prog 25 = some pl25 := by kernel_rfl
@[go_sem] theorem pl_25_0 : pl25 0 = some (0, 1) := by kernel_rfl
@[go_sem] theorem pl_25_1 : pl25 1 = some (1, 1) := by kernel_rfl
@[go_sem] theorem pl_25_2 : pl25 2 = some (2, 1) := by kernel_rfl
@[go_sem] theorem okT_26 : okT Try.prog 26 = true := by kernel_rfl
@[go_sem] theorem szOf_26 : szOf Try.prog 26 = 1 := by kernel_rfl
@[go_sem] theorem aggT_26 : aggT Try.prog 26 = false := by kernel_rfl
@[go_sem] theorem undS_26 : (Try.prog.underlying 26).isSome = true := by kernel_rfl
@[go_sem] theorem infS_26 : (Try.prog.info? 26).isSome = true := by kernel_rfl
@[go_sem] theorem ifaceT_26 : ifaceT Try.prog 26 = false := by kernel_rfl
@[go_sem] theorem zeroT_26 : zeroT Try.prog 26 = true := by kernel_rfl
@[go_sem] theorem zeroOk_26 : zeroOk Try.prog 26 = true := by kernel_rfl
@[go_sem] theorem bytesOf_26 : bytesOf Try.prog 26 = 8 := by kernel_rfl
@[go_sem] theorem zeroD_26 : zeroD Try.prog 26 = [.v .nilFunc] := by kernel_rfl
@[go_sem] theorem okT_28 : okT Try.prog 28 = true := by kernel_rfl
@[go_sem] theorem szOf_28 : szOf Try.prog 28 = 1 := by kernel_rfl
@[go_sem] theorem aggT_28 : aggT Try.prog 28 = false := by kernel_rfl
@[go_sem] theorem undS_28 : (Try.prog.underlying 28).isSome = true := by kernel_rfl
@[go_sem] theorem infS_28 : (Try.prog.info? 28).isSome = true := by kernel_rfl
@[go_sem] theorem ifaceT_28 : ifaceT Try.prog 28 = false := by kernel_rfl
@[go_sem] theorem zeroT_28 : zeroT Try.prog 28 = true := by kernel_rfl
@[go_sem] theorem zeroOk_28 : zeroOk Try.prog 28 = true := by kernel_rfl
@[go_sem] theorem bytesOf_28 : bytesOf Try.prog 28 = 24 := by kernel_rfl
@[go_sem] theorem zeroD_28 : zeroD Try.prog 28 = [.sl .full []] := by kernel_rfl
@[go_sem] theorem elT_28 : elT Try.prog 28 = some 52 := by kernel_rfl
@[go_sem] theorem bul_28 (own : Own) (es : List D) (ty : TypeId) (cs : Array Bool) : dbuiltin Try.prog .len #[28] ty cs [.sl own es] = some (True, .v (.int .i64 es.length)) := bu_len own es _ ty cs elT_28
@[go_sem] theorem okT_29 : okT Try.prog 29 = true := by kernel_rfl
@[go_sem] theorem szOf_29 : szOf Try.prog 29 = 1 := by kernel_rfl
@[go_sem] theorem aggT_29 : aggT Try.prog 29 = false := by kernel_rfl
@[go_sem] theorem undS_29 : (Try.prog.underlying 29).isSome = true := by kernel_rfl
@[go_sem] theorem infS_29 : (Try.prog.info? 29).isSome = true := by kernel_rfl
@[go_sem] theorem ifaceT_29 : ifaceT Try.prog 29 = false := by kernel_rfl
@[go_sem] theorem zeroT_29 : zeroT Try.prog 29 = true := by kernel_rfl
@[go_sem] theorem zeroOk_29 : zeroOk Try.prog 29 = true := by kernel_rfl
@[go_sem] theorem bytesOf_29 : bytesOf Try.prog 29 = 24 := by kernel_rfl
@[go_sem] theorem zeroD_29 : zeroD Try.prog 29 = [.sl .full []] := by kernel_rfl
@[go_sem] theorem elT_29 : elT Try.prog 29 = some 31 := by kernel_rfl
@[go_sem] theorem bul_29 (own : Own) (es : List D) (ty : TypeId) (cs : Array Bool) : dbuiltin Try.prog .len #[29] ty cs [.sl own es] = some (True, .v (.int .i64 es.length)) := bu_len own es _ ty cs elT_29
@[go_sem] theorem okT_30 : okT Try.prog 30 = true := by kernel_rfl
@[go_sem] theorem szOf_30 : szOf Try.prog 30 = 6 := by kernel_rfl
@[go_sem] theorem aggT_30 : aggT Try.prog 30 = true := by kernel_rfl
@[go_sem] theorem undS_30 : (Try.prog.underlying 30).isSome = true := by kernel_rfl
@[go_sem] theorem infS_30 : (Try.prog.info? 30).isSome = true := by kernel_rfl
@[go_sem] theorem ifaceT_30 : ifaceT Try.prog 30 = false := by kernel_rfl
@[go_sem] theorem zeroT_30 : zeroT Try.prog 30 = true := by kernel_rfl
@[go_sem] theorem zeroOk_30 : zeroOk Try.prog 30 = true := by kernel_rfl
@[go_sem] theorem bytesOf_30 : bytesOf Try.prog 30 = 104 := by kernel_rfl
@[go_sem] theorem zeroD_30 : zeroD Try.prog 30 = [.v (.int .i64 0), .v (.int .i64 0), .v (.string ⟨#[]⟩), .sl .full [], .sl .full [], .sl .full []] := by kernel_rfl
@[go_sem] theorem fld_30_0 : fld Try.prog 30 0 = some (0, 3) := by kernel_rfl
@[go_sem] theorem fld_30_1 : fld Try.prog 30 1 = some (1, 3) := by kernel_rfl
@[go_sem] theorem fld_30_2 : fld Try.prog 30 2 = some (2, 9) := by kernel_rfl
@[go_sem] theorem fld_30_3 : fld Try.prog 30 3 = some (3, 22) := by kernel_rfl
@[go_sem] theorem fld_30_4 : fld Try.prog 30 4 = some (4, 28) := by kernel_rfl
@[go_sem] theorem fld_30_5 : fld Try.prog 30 5 = some (5, 29) := by kernel_rfl
noncomputable def pl30 : Nat → Option (Nat × Nat) := (placeT Try.prog 30).getD fun _ => none
@[go_sem] theorem placeT_30 : placeT Try.prog 30 = some pl30 := by kernel_rfl
@[go_sem] theorem pl_30_0 : pl30 0 = some (0, 1) := by kernel_rfl
@[go_sem] theorem pl_30_1 : pl30 1 = some (1, 1) := by kernel_rfl
@[go_sem] theorem pl_30_2 : pl30 2 = some (2, 1) := by kernel_rfl
@[go_sem] theorem pl_30_3 : pl30 3 = some (3, 1) := by kernel_rfl
@[go_sem] theorem pl_30_4 : pl30 4 = some (4, 1) := by kernel_rfl
@[go_sem] theorem pl_30_5 : pl30 5 = some (5, 1) := by kernel_rfl
@[go_sem] theorem okT_31 : okT Try.prog 31 = true := by kernel_rfl
@[go_sem] theorem szOf_31 : szOf Try.prog 31 = 6 := by kernel_rfl
@[go_sem] theorem aggT_31 : aggT Try.prog 31 = true := by kernel_rfl
@[go_sem] theorem undS_31 : (Try.prog.underlying 31).isSome = true := by kernel_rfl
@[go_sem] theorem infS_31 : (Try.prog.info? 31).isSome = true := by kernel_rfl
@[go_sem] theorem ifaceT_31 : ifaceT Try.prog 31 = false := by kernel_rfl
@[go_sem] theorem zeroT_31 : zeroT Try.prog 31 = true := by kernel_rfl
@[go_sem] theorem zeroOk_31 : zeroOk Try.prog 31 = true := by kernel_rfl
@[go_sem] theorem bytesOf_31 : bytesOf Try.prog 31 = 104 := by kernel_rfl
@[go_sem] theorem zeroD_31 : zeroD Try.prog 31 = [.v (.int .i64 0), .v (.int .i64 0), .v (.string ⟨#[]⟩), .sl .full [], .sl .full [], .sl .full []] := by kernel_rfl
@[go_sem] theorem fld_31_0 : fld Try.prog 31 0 = some (0, 3) := by kernel_rfl
@[go_sem] theorem fld_31_1 : fld Try.prog 31 1 = some (1, 3) := by kernel_rfl
@[go_sem] theorem fld_31_2 : fld Try.prog 31 2 = some (2, 9) := by kernel_rfl
@[go_sem] theorem fld_31_3 : fld Try.prog 31 3 = some (3, 22) := by kernel_rfl
@[go_sem] theorem fld_31_4 : fld Try.prog 31 4 = some (4, 28) := by kernel_rfl
@[go_sem] theorem fld_31_5 : fld Try.prog 31 5 = some (5, 29) := by kernel_rfl
noncomputable def pl31 : Nat → Option (Nat × Nat) := (placeT Try.prog 31).getD fun _ => none
@[go_sem] theorem placeT_31 : placeT Try.prog 31 = some pl31 := by kernel_rfl
@[go_sem] theorem pl_31_0 : pl31 0 = some (0, 1) := by kernel_rfl
@[go_sem] theorem pl_31_1 : pl31 1 = some (1, 1) := by kernel_rfl
@[go_sem] theorem pl_31_2 : pl31 2 = some (2, 1) := by kernel_rfl
@[go_sem] theorem pl_31_3 : pl31 3 = some (3, 1) := by kernel_rfl
@[go_sem] theorem pl_31_4 : pl31 4 = some (4, 1) := by kernel_rfl
@[go_sem] theorem pl_31_5 : pl31 5 = some (5, 1) := by kernel_rfl
@[go_sem] theorem okT_32 : okT Try.prog 32 = true := by kernel_rfl
@[go_sem] theorem szOf_32 : szOf Try.prog 32 = 1 := by kernel_rfl
@[go_sem] theorem aggT_32 : aggT Try.prog 32 = false := by kernel_rfl
@[go_sem] theorem undS_32 : (Try.prog.underlying 32).isSome = true := by kernel_rfl
@[go_sem] theorem infS_32 : (Try.prog.info? 32).isSome = true := by kernel_rfl
@[go_sem] theorem ifaceT_32 : ifaceT Try.prog 32 = false := by kernel_rfl
@[go_sem] theorem zeroT_32 : zeroT Try.prog 32 = true := by kernel_rfl
@[go_sem] theorem zeroOk_32 : zeroOk Try.prog 32 = true := by kernel_rfl
@[go_sem] theorem bytesOf_32 : bytesOf Try.prog 32 = 8 := by kernel_rfl
@[go_sem] theorem zeroD_32 : zeroD Try.prog 32 = [.v .nilFunc] := by kernel_rfl
@[go_sem] theorem okT_33 : okT Try.prog 33 = true := by kernel_rfl
@[go_sem] theorem szOf_33 : szOf Try.prog 33 = 1 := by kernel_rfl
@[go_sem] theorem aggT_33 : aggT Try.prog 33 = false := by kernel_rfl
@[go_sem] theorem undS_33 : (Try.prog.underlying 33).isSome = true := by kernel_rfl
@[go_sem] theorem infS_33 : (Try.prog.info? 33).isSome = true := by kernel_rfl
@[go_sem] theorem ifaceT_33 : ifaceT Try.prog 33 = false := by kernel_rfl
@[go_sem] theorem zeroT_33 : zeroT Try.prog 33 = true := by kernel_rfl
@[go_sem] theorem zeroOk_33 : zeroOk Try.prog 33 = true := by kernel_rfl
@[go_sem] theorem bytesOf_33 : bytesOf Try.prog 33 = 8 := by kernel_rfl
@[go_sem] theorem zeroD_33 : zeroD Try.prog 33 = [.v .nilFunc] := by kernel_rfl
@[go_sem] theorem okT_34 : okT Try.prog 34 = true := by kernel_rfl
@[go_sem] theorem szOf_34 : szOf Try.prog 34 = 1 := by kernel_rfl
@[go_sem] theorem aggT_34 : aggT Try.prog 34 = false := by kernel_rfl
@[go_sem] theorem undS_34 : (Try.prog.underlying 34).isSome = true := by kernel_rfl
@[go_sem] theorem infS_34 : (Try.prog.info? 34).isSome = true := by kernel_rfl
@[go_sem] theorem ifaceT_34 : ifaceT Try.prog 34 = false := by kernel_rfl
@[go_sem] theorem zeroT_34 : zeroT Try.prog 34 = true := by kernel_rfl
@[go_sem] theorem zeroOk_34 : zeroOk Try.prog 34 = true := by kernel_rfl
@[go_sem] theorem bytesOf_34 : bytesOf Try.prog 34 = 8 := by kernel_rfl
@[go_sem] theorem zeroD_34 : zeroD Try.prog 34 = [.v .nilFunc] := by kernel_rfl
@[go_sem] theorem okT_35 : okT Try.prog 35 = true := by kernel_rfl
@[go_sem] theorem szOf_35 : szOf Try.prog 35 = 1 := by kernel_rfl
@[go_sem] theorem aggT_35 : aggT Try.prog 35 = false := by kernel_rfl
@[go_sem] theorem undS_35 : (Try.prog.underlying 35).isSome = true := by kernel_rfl
@[go_sem] theorem infS_35 : (Try.prog.info? 35).isSome = true := by kernel_rfl
@[go_sem] theorem ifaceT_35 : ifaceT Try.prog 35 = false := by kernel_rfl
@[go_sem] theorem zeroT_35 : zeroT Try.prog 35 = true := by kernel_rfl
@[go_sem] theorem zeroOk_35 : zeroOk Try.prog 35 = true := by kernel_rfl
@[go_sem] theorem bytesOf_35 : bytesOf Try.prog 35 = 8 := by kernel_rfl
@[go_sem] theorem zeroD_35 : zeroD Try.prog 35 = [.v .nilFunc] := by kernel_rfl
@[go_sem] theorem okT_36 : okT Try.prog 36 = true := by kernel_rfl
@[go_sem] theorem szOf_36 : szOf Try.prog 36 = 1 := by kernel_rfl
@[go_sem] theorem aggT_36 : aggT Try.prog 36 = false := by kernel_rfl
@[go_sem] theorem undS_36 : (Try.prog.underlying 36).isSome = true := by kernel_rfl
@[go_sem] theorem infS_36 : (Try.prog.info? 36).isSome = true := by kernel_rfl
@[go_sem] theorem ifaceT_36 : ifaceT Try.prog 36 = false := by kernel_rfl
@[go_sem] theorem zeroT_36 : zeroT Try.prog 36 = true := by kernel_rfl
@[go_sem] theorem zeroOk_36 : zeroOk Try.prog 36 = true := by kernel_rfl
@[go_sem] theorem bytesOf_36 : bytesOf Try.prog 36 = 8 := by kernel_rfl
@[go_sem] theorem zeroD_36 : zeroD Try.prog 36 = [.v .nilFunc] := by kernel_rfl
@[go_sem] theorem okT_37 : okT Try.prog 37 = true := by kernel_rfl
@[go_sem] theorem szOf_37 : szOf Try.prog 37 = 1 := by kernel_rfl
@[go_sem] theorem aggT_37 : aggT Try.prog 37 = false := by kernel_rfl
@[go_sem] theorem undS_37 : (Try.prog.underlying 37).isSome = true := by kernel_rfl
@[go_sem] theorem infS_37 : (Try.prog.info? 37).isSome = true := by kernel_rfl
@[go_sem] theorem ifaceT_37 : ifaceT Try.prog 37 = false := by kernel_rfl
@[go_sem] theorem zeroT_37 : zeroT Try.prog 37 = true := by kernel_rfl
@[go_sem] theorem zeroOk_37 : zeroOk Try.prog 37 = true := by kernel_rfl
@[go_sem] theorem bytesOf_37 : bytesOf Try.prog 37 = 8 := by kernel_rfl
@[go_sem] theorem zeroD_37 : zeroD Try.prog 37 = [.v .nilFunc] := by kernel_rfl
@[go_sem] theorem okT_38 : okT Try.prog 38 = true := by kernel_rfl
@[go_sem] theorem szOf_38 : szOf Try.prog 38 = 1 := by kernel_rfl
@[go_sem] theorem aggT_38 : aggT Try.prog 38 = false := by kernel_rfl
@[go_sem] theorem undS_38 : (Try.prog.underlying 38).isSome = true := by kernel_rfl
@[go_sem] theorem infS_38 : (Try.prog.info? 38).isSome = true := by kernel_rfl
@[go_sem] theorem ifaceT_38 : ifaceT Try.prog 38 = false := by kernel_rfl
@[go_sem] theorem zeroT_38 : zeroT Try.prog 38 = true := by kernel_rfl
@[go_sem] theorem zeroOk_38 : zeroOk Try.prog 38 = true := by kernel_rfl
@[go_sem] theorem bytesOf_38 : bytesOf Try.prog 38 = 24 := by kernel_rfl
@[go_sem] theorem zeroD_38 : zeroD Try.prog 38 = [.sl .full []] := by kernel_rfl
@[go_sem] theorem elT_38 : elT Try.prog 38 = some 42 := by kernel_rfl
@[go_sem] theorem bul_38 (own : Own) (es : List D) (ty : TypeId) (cs : Array Bool) : dbuiltin Try.prog .len #[38] ty cs [.sl own es] = some (True, .v (.int .i64 es.length)) := bu_len own es _ ty cs elT_38
@[go_sem] theorem okT_42 : okT Try.prog 42 = true := by kernel_rfl
@[go_sem] theorem szOf_42 : szOf Try.prog 42 = 1 := by kernel_rfl
@[go_sem] theorem aggT_42 : aggT Try.prog 42 = false := by kernel_rfl
@[go_sem] theorem undS_42 : (Try.prog.underlying 42).isSome = true := by kernel_rfl
@[go_sem] theorem infS_42 : (Try.prog.info? 42).isSome = true := by kernel_rfl
@[go_sem] theorem ifaceT_42 : ifaceT Try.prog 42 = false := by kernel_rfl
@[go_sem] theorem zeroT_42 : zeroT Try.prog 42 = true := by kernel_rfl
@[go_sem] theorem zeroOk_42 : zeroOk Try.prog 42 = true := by kernel_rfl
@[go_sem] theorem bytesOf_42 : bytesOf Try.prog 42 = 24 := by kernel_rfl
@[go_sem] theorem zeroD_42 : zeroD Try.prog 42 = [.sl .full []] := by kernel_rfl
@[go_sem] theorem elT_42 : elT Try.prog 42 = some 81 := by kernel_rfl
@[go_sem] theorem bul_42 (own : Own) (es : List D) (ty : TypeId) (cs : Array Bool) : dbuiltin Try.prog .len #[42] ty cs [.sl own es] = some (True, .v (.int .i64 es.length)) := bu_len own es _ ty cs elT_42
@[go_sem] theorem okT_44 : okT Try.prog 44 = true := by kernel_rfl
@[go_sem] theorem szOf_44 : szOf Try.prog 44 = 1 := by kernel_rfl
@[go_sem] theorem aggT_44 : aggT Try.prog 44 = false := by kernel_rfl
@[go_sem] theorem undS_44 : (Try.prog.underlying 44).isSome = true := by kernel_rfl
@[go_sem] theorem infS_44 : (Try.prog.info? 44).isSome = true := by kernel_rfl
@[go_sem] theorem ifaceT_44 : ifaceT Try.prog 44 = false := by kernel_rfl
@[go_sem] theorem zeroT_44 : zeroT Try.prog 44 = true := by kernel_rfl
@[go_sem] theorem zeroOk_44 : zeroOk Try.prog 44 = true := by kernel_rfl
@[go_sem] theorem bytesOf_44 : bytesOf Try.prog 44 = 8 := by kernel_rfl
@[go_sem] theorem zeroD_44 : zeroD Try.prog 44 = [.v .nilFunc] := by kernel_rfl
@[go_sem] theorem okT_45 : okT Try.prog 45 = true := by kernel_rfl
@[go_sem] theorem szOf_45 : szOf Try.prog 45 = 1 := by kernel_rfl
@[go_sem] theorem aggT_45 : aggT Try.prog 45 = false := by kernel_rfl
@[go_sem] theorem undS_45 : (Try.prog.underlying 45).isSome = true := by kernel_rfl
@[go_sem] theorem infS_45 : (Try.prog.info? 45).isSome = true := by kernel_rfl
@[go_sem] theorem ifaceT_45 : ifaceT Try.prog 45 = false := by kernel_rfl
@[go_sem] theorem zeroT_45 : zeroT Try.prog 45 = true := by kernel_rfl
@[go_sem] theorem zeroOk_45 : zeroOk Try.prog 45 = true := by kernel_rfl
@[go_sem] theorem bytesOf_45 : bytesOf Try.prog 45 = 8 := by kernel_rfl
@[go_sem] theorem zeroD_45 : zeroD Try.prog 45 = [.v .nilFunc] := by kernel_rfl
@[go_sem] theorem okT_52 : okT Try.prog 52 = true := by kernel_rfl
@[go_sem] theorem szOf_52 : szOf Try.prog 52 = 1 := by kernel_rfl
@[go_sem] theorem aggT_52 : aggT Try.prog 52 = false := by kernel_rfl
@[go_sem] theorem undS_52 : (Try.prog.underlying 52).isSome = true := by kernel_rfl
@[go_sem] theorem infS_52 : (Try.prog.info? 52).isSome = true := by kernel_rfl
@[go_sem] theorem ifaceT_52 : ifaceT Try.prog 52 = false := by kernel_rfl
@[go_sem] theorem zeroT_52 : zeroT Try.prog 52 = true := by kernel_rfl
@[go_sem] theorem zeroOk_52 : zeroOk Try.prog 52 = true := by kernel_rfl
@[go_sem] theorem bytesOf_52 : bytesOf Try.prog 52 = 8 := by kernel_rfl
@[go_sem] theorem zeroD_52 : zeroD Try.prog 52 = [.v (.int .u64 0)] := by kernel_rfl
@[go_sem] theorem okT_59 : okT Try.prog 59 = true := by kernel_rfl
@[go_sem] theorem szOf_59 : szOf Try.prog 59 = 1 := by kernel_rfl
@[go_sem] theorem aggT_59 : aggT Try.prog 59 = false := by kernel_rfl
@[go_sem] theorem undS_59 : (Try.prog.underlying 59).isSome = true := by kernel_rfl
@[go_sem] theorem infS_59 : (Try.prog.info? 59).isSome = true := by kernel_rfl
@[go_sem] theorem ifaceT_59 : ifaceT Try.prog 59 = false := by kernel_rfl
@[go_sem] theorem zeroT_59 : zeroT Try.prog 59 = true := by kernel_rfl
@[go_sem] theorem zeroOk_59 : zeroOk Try.prog 59 = true := by kernel_rfl
@[go_sem] theorem bytesOf_59 : bytesOf Try.prog 59 = 8 := by kernel_rfl
@[go_sem] theorem zeroD_59 : zeroD Try.prog 59 = [.v .nilFunc] := by kernel_rfl
@[go_sem] theorem okT_61 : okT Try.prog 61 = true := by kernel_rfl
@[go_sem] theorem szOf_61 : szOf Try.prog 61 = 1 := by kernel_rfl
@[go_sem] theorem aggT_61 : aggT Try.prog 61 = false := by kernel_rfl
@[go_sem] theorem undS_61 : (Try.prog.underlying 61).isSome = true := by kernel_rfl
@[go_sem] theorem infS_61 : (Try.prog.info? 61).isSome = true := by kernel_rfl
@[go_sem] theorem ifaceT_61 : ifaceT Try.prog 61 = false := by kernel_rfl
@[go_sem] theorem zeroT_61 : zeroT Try.prog 61 = true := by kernel_rfl
@[go_sem] theorem zeroOk_61 : zeroOk Try.prog 61 = true := by kernel_rfl
@[go_sem] theorem bytesOf_61 : bytesOf Try.prog 61 = 24 := by kernel_rfl
@[go_sem] theorem zeroD_61 : zeroD Try.prog 61 = [.sl .full []] := by kernel_rfl
@[go_sem] theorem elT_61 : elT Try.prog 61 = some 5 := by kernel_rfl
@[go_sem] theorem bul_61 (own : Own) (es : List D) (ty : TypeId) (cs : Array Bool) : dbuiltin Try.prog .len #[61] ty cs [.sl own es] = some (True, .v (.int .i64 es.length)) := bu_len own es _ ty cs elT_61
@[go_sem] theorem okT_63 : okT Try.prog 63 = true := by kernel_rfl
@[go_sem] theorem szOf_63 : szOf Try.prog 63 = 1 := by kernel_rfl
@[go_sem] theorem aggT_63 : aggT Try.prog 63 = true := by kernel_rfl
@[go_sem] theorem undS_63 : (Try.prog.underlying 63).isSome = true := by kernel_rfl
@[go_sem] theorem infS_63 : (Try.prog.info? 63).isSome = true := by kernel_rfl
@[go_sem] theorem ifaceT_63 : ifaceT Try.prog 63 = false := by kernel_rfl
@[go_sem] theorem zeroT_63 : zeroT Try.prog 63 = true := by kernel_rfl
@[go_sem] theorem zeroOk_63 : zeroOk Try.prog 63 = true := by kernel_rfl
@[go_sem] theorem bytesOf_63 : bytesOf Try.prog 63 = 24 := by kernel_rfl
@[go_sem] theorem zeroD_63 : zeroD Try.prog 63 = [.sl .full []] := by kernel_rfl
@[go_sem] theorem fld_63_0 : fld Try.prog 63 0 = some (0, 61) := by kernel_rfl
noncomputable def pl63 : Nat → Option (Nat × Nat) := (placeT Try.prog 63).getD fun _ => none
@[go_sem] theorem placeT_63 : placeT Try.prog 63 = some pl63 := by kernel_rfl
@[go_sem] theorem pl_63_0 : pl63 0 = some (0, 1) := by kernel_rfl
@[go_sem] theorem okT_65 : okT Try.prog 65 = true := by kernel_rfl
@[go_sem] theorem szOf_65 : szOf Try.prog 65 = 1 := by kernel_rfl
@[go_sem] theorem aggT_65 : aggT Try.prog 65 = false := by kernel_rfl
@[go_sem] theorem undS_65 : (Try.prog.underlying 65).isSome = true := by kernel_rfl
@[go_sem] theorem infS_65 : (Try.prog.info? 65).isSome = true := by kernel_rfl
@[go_sem] theorem ifaceT_65 : ifaceT Try.prog 65 = false := by kernel_rfl
@[go_sem] theorem zeroT_65 : zeroT Try.prog 65 = true := by kernel_rfl
@[go_sem] theorem zeroOk_65 : zeroOk Try.prog 65 = true := by kernel_rfl
@[go_sem] theorem bytesOf_65 : bytesOf Try.prog 65 = 8 := by kernel_rfl
@[go_sem] theorem zeroD_65 : zeroD Try.prog 65 = [.v (.pointer none)] := by kernel_rfl
@[go_sem] theorem okT_67 : okT Try.prog 67 = true := by kernel_rfl
@[go_sem] theorem szOf_67 : szOf Try.prog 67 = 1 := by kernel_rfl
@[go_sem] theorem aggT_67 : aggT Try.prog 67 = false := by kernel_rfl
@[go_sem] theorem undS_67 : (Try.prog.underlying 67).isSome = true := by kernel_rfl
@[go_sem] theorem infS_67 : (Try.prog.info? 67).isSome = true := by kernel_rfl
@[go_sem] theorem ifaceT_67 : ifaceT Try.prog 67 = false := by kernel_rfl
@[go_sem] theorem zeroT_67 : zeroT Try.prog 67 = true := by kernel_rfl
@[go_sem] theorem zeroOk_67 : zeroOk Try.prog 67 = true := by kernel_rfl
@[go_sem] theorem bytesOf_67 : bytesOf Try.prog 67 = 8 := by kernel_rfl
@[go_sem] theorem zeroD_67 : zeroD Try.prog 67 = [.v (.pointer none)] := by kernel_rfl
@[go_sem] theorem okT_73 : okT Try.prog 73 = true := by kernel_rfl
@[go_sem] theorem szOf_73 : szOf Try.prog 73 = 1 := by kernel_rfl
@[go_sem] theorem aggT_73 : aggT Try.prog 73 = false := by kernel_rfl
@[go_sem] theorem undS_73 : (Try.prog.underlying 73).isSome = true := by kernel_rfl
@[go_sem] theorem infS_73 : (Try.prog.info? 73).isSome = true := by kernel_rfl
@[go_sem] theorem ifaceT_73 : ifaceT Try.prog 73 = true := by kernel_rfl
@[go_sem] theorem zeroT_73 : zeroT Try.prog 73 = true := by kernel_rfl
@[go_sem] theorem zeroOk_73 : zeroOk Try.prog 73 = true := by kernel_rfl
@[go_sem] theorem bytesOf_73 : bytesOf Try.prog 73 = 16 := by kernel_rfl
@[go_sem] theorem zeroD_73 : zeroD Try.prog 73 = [.v .nilIface] := by kernel_rfl
@[go_sem] theorem okT_81 : okT Try.prog 81 = true := by kernel_rfl
@[go_sem] theorem szOf_81 : szOf Try.prog 81 = 2 := by kernel_rfl
@[go_sem] theorem aggT_81 : aggT Try.prog 81 = true := by kernel_rfl
@[go_sem] theorem undS_81 : (Try.prog.underlying 81).isSome = true := by kernel_rfl
@[go_sem] theorem infS_81 : (Try.prog.info? 81).isSome = true := by kernel_rfl
@[go_sem] theorem ifaceT_81 : ifaceT Try.prog 81 = false := by kernel_rfl
@[go_sem] theorem zeroT_81 : zeroT Try.prog 81 = true := by kernel_rfl
@[go_sem] theorem zeroOk_81 : zeroOk Try.prog 81 = true := by kernel_rfl
@[go_sem] theorem bytesOf_81 : bytesOf Try.prog 81 = 24 := by kernel_rfl
@[go_sem] theorem zeroD_81 : zeroD Try.prog 81 = [.v (.string ⟨#[]⟩), .v (.int .u64 0)] := by kernel_rfl
@[go_sem] theorem fld_81_0 : fld Try.prog 81 0 = some (0, 9) := by kernel_rfl
@[go_sem] theorem fld_81_1 : fld Try.prog 81 1 = some (1, 52) := by kernel_rfl
noncomputable def pl81 : Nat → Option (Nat × Nat) := (placeT Try.prog 81).getD fun _ => none
@[go_sem] theorem placeT_81 : placeT Try.prog 81 = some pl81 := by kernel_rfl
@[go_sem] theorem pl_81_0 : pl81 0 = some (0, 1) := by kernel_rfl
@[go_sem] theorem pl_81_1 : pl81 1 = some (1, 1) := by kernel_rfl
@[go_sem] theorem okT_95 : okT Try.prog 95 = true := by kernel_rfl
@[go_sem] theorem szOf_95 : szOf Try.prog 95 = 1 := by kernel_rfl
@[go_sem] theorem aggT_95 : aggT Try.prog 95 = false := by kernel_rfl
@[go_sem] theorem undS_95 : (Try.prog.underlying 95).isSome = true := by kernel_rfl
@[go_sem] theorem infS_95 : (Try.prog.info? 95).isSome = true := by kernel_rfl
@[go_sem] theorem ifaceT_95 : ifaceT Try.prog 95 = false := by kernel_rfl
@[go_sem] theorem zeroT_95 : zeroT Try.prog 95 = true := by kernel_rfl
@[go_sem] theorem zeroOk_95 : zeroOk Try.prog 95 = true := by kernel_rfl
@[go_sem] theorem bytesOf_95 : bytesOf Try.prog 95 = 8 := by kernel_rfl
@[go_sem] theorem zeroD_95 : zeroD Try.prog 95 = [.v .nilFunc] := by kernel_rfl
@[go_sem] theorem okT_118 : okT Try.prog 118 = true := by kernel_rfl
@[go_sem] theorem szOf_118 : szOf Try.prog 118 = 1 := by kernel_rfl
@[go_sem] theorem aggT_118 : aggT Try.prog 118 = false := by kernel_rfl
@[go_sem] theorem undS_118 : (Try.prog.underlying 118).isSome = true := by kernel_rfl
@[go_sem] theorem infS_118 : (Try.prog.info? 118).isSome = true := by kernel_rfl
@[go_sem] theorem ifaceT_118 : ifaceT Try.prog 118 = false := by kernel_rfl
@[go_sem] theorem zeroT_118 : zeroT Try.prog 118 = true := by kernel_rfl
@[go_sem] theorem zeroOk_118 : zeroOk Try.prog 118 = true := by kernel_rfl
@[go_sem] theorem bytesOf_118 : bytesOf Try.prog 118 = 8 := by kernel_rfl
@[go_sem] theorem zeroD_118 : zeroD Try.prog 118 = [.v .nilFunc] := by kernel_rfl
@[go_sem] theorem okT_147 : okT Try.prog 147 = true := by kernel_rfl
@[go_sem] theorem szOf_147 : szOf Try.prog 147 = 1 := by kernel_rfl
@[go_sem] theorem aggT_147 : aggT Try.prog 147 = false := by kernel_rfl
@[go_sem] theorem undS_147 : (Try.prog.underlying 147).isSome = true := by kernel_rfl
@[go_sem] theorem infS_147 : (Try.prog.info? 147).isSome = true := by kernel_rfl
@[go_sem] theorem ifaceT_147 : ifaceT Try.prog 147 = false := by kernel_rfl
@[go_sem] theorem zeroT_147 : zeroT Try.prog 147 = true := by kernel_rfl
@[go_sem] theorem zeroOk_147 : zeroOk Try.prog 147 = true := by kernel_rfl
@[go_sem] theorem bytesOf_147 : bytesOf Try.prog 147 = 8 := by kernel_rfl
@[go_sem] theorem zeroD_147 : zeroD Try.prog 147 = [.v .nilFunc] := by kernel_rfl
theorem mixed : Try.prog.follows .mixedOrders = true := by kernel_rfl
end Go.Proofs.Ytpnjkebjdclkfaa
