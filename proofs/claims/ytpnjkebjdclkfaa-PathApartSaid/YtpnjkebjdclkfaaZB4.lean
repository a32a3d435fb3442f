/- Texts of a proof, part 4. Conditions: none. -/
import Derived.Test.YtpnjkebjdclkfaaZB3
import Derived.Test.YtpnjkebjdclkfaaProg
import Derived.KernelRfl
import Derived.Deep.DeepCutAuto
import Derived.Sort.Walk0
import Derived.Lib.OthersKept
import Derived.Lib.TrimU
import Derived.Deep.LoopGhost
import Derived.Deep.MidRow
import Derived.DeepKeys
set_option linter.unusedVariables false
set_option linter.unusedSimpArgs false
/- Closed facts on the types of this seat. Conditions: none. -/
namespace Go.Proofs.Ytpnjkebjdclkfaa

@[go_sem] theorem okT_1 : okT Try.prog 1 = true := by kernel_rfl
@[go_sem] theorem szOf_1 : szOf Try.prog 1 = 1 := by kernel_rfl
@[go_sem] theorem aggT_1 : aggT Try.prog 1 = false := by kernel_rfl
@[go_sem] theorem undS_1 : (Try.prog.underlying 1).isSome = true := by kernel_rfl
@[go_sem] theorem infS_1 : (Try.prog.info? 1).isSome = true := by kernel_rfl
@[go_sem] theorem ifaceT_1 : ifaceT Try.prog 1 = false := by kernel_rfl
@[go_sem] theorem zeroT_1 : zeroT Try.prog 1 = true := by kernel_rfl
@[go_sem] theorem zeroOk_1 : zeroOk Try.prog 1 = true := by kernel_rfl
@[go_sem] theorem bytesOf_1 : bytesOf Try.prog 1 = 8 := by kernel_rfl
@[go_sem] theorem zeroD_1 : zeroD Try.prog 1 = [.v .nilFunc] := by kernel_rfl
@[go_sem] theorem okT_2 : okT Try.prog 2 = true := by kernel_rfl
@[go_sem] theorem szOf_2 : szOf Try.prog 2 = 1 := by kernel_rfl
@[go_sem] theorem aggT_2 : aggT Try.prog 2 = false := by kernel_rfl
@[go_sem] theorem undS_2 : (Try.prog.underlying 2).isSome = true := by kernel_rfl
@[go_sem] theorem infS_2 : (Try.prog.info? 2).isSome = true := by kernel_rfl
@[go_sem] theorem ifaceT_2 : ifaceT Try.prog 2 = false := by kernel_rfl
@[go_sem] theorem zeroT_2 : zeroT Try.prog 2 = true := by kernel_rfl
@[go_sem] theorem zeroOk_2 : zeroOk Try.prog 2 = true := by kernel_rfl
@[go_sem] theorem bytesOf_2 : bytesOf Try.prog 2 = 8 := by kernel_rfl
@[go_sem] theorem zeroD_2 : zeroD Try.prog 2 = [.v (.int .i64 0)] := by kernel_rfl
@[go_sem] theorem okT_3 : okT Try.prog 3 = true := by kernel_rfl
@[go_sem] theorem szOf_3 : szOf Try.prog 3 = 1 := by kernel_rfl
@[go_sem] theorem aggT_3 : aggT Try.prog 3 = false := by kernel_rfl
@[go_sem] theorem undS_3 : (Try.prog.underlying 3).isSome = true := by kernel_rfl
@[go_sem] theorem infS_3 : (Try.prog.info? 3).isSome = true := by kernel_rfl
@[go_sem] theorem ifaceT_3 : ifaceT Try.prog 3 = false := by kernel_rfl
@[go_sem] theorem zeroT_3 : zeroT Try.prog 3 = true := by kernel_rfl
@[go_sem] theorem zeroOk_3 : zeroOk Try.prog 3 = true := by kernel_rfl
@[go_sem] theorem bytesOf_3 : bytesOf Try.prog 3 = 8 := by kernel_rfl
@[go_sem] theorem zeroD_3 : zeroD Try.prog 3 = [.v (.int .i64 0)] := by kernel_rfl
@[go_sem] theorem okT_4 : okT Try.prog 4 = true := by kernel_rfl
@[go_sem] theorem szOf_4 : szOf Try.prog 4 = 1 := by kernel_rfl
@[go_sem] theorem aggT_4 : aggT Try.prog 4 = false := by kernel_rfl
@[go_sem] theorem undS_4 : (Try.prog.underlying 4).isSome = true := by kernel_rfl
@[go_sem] theorem infS_4 : (Try.prog.info? 4).isSome = true := by kernel_rfl
@[go_sem] theorem ifaceT_4 : ifaceT Try.prog 4 = false := by kernel_rfl
@[go_sem] theorem zeroT_4 : zeroT Try.prog 4 = true := by kernel_rfl
@[go_sem] theorem zeroOk_4 : zeroOk Try.prog 4 = true := by kernel_rfl
@[go_sem] theorem bytesOf_4 : bytesOf Try.prog 4 = 1 := by kernel_rfl
@[go_sem] theorem zeroD_4 : zeroD Try.prog 4 = [.v (.bool false)] := by kernel_rfl
@[go_sem] theorem okT_5 : okT Try.prog 5 = true := by kernel_rfl
@[go_sem] theorem szOf_5 : szOf Try.prog 5 = 1 := by kernel_rfl
@[go_sem] theorem aggT_5 : aggT Try.prog 5 = false := by kernel_rfl
@[go_sem] theorem undS_5 : (Try.prog.underlying 5).isSome = true := by kernel_rfl
@[go_sem] theorem infS_5 : (Try.prog.info? 5).isSome = true := by kernel_rfl
@[go_sem] theorem ifaceT_5 : ifaceT Try.prog 5 = false := by kernel_rfl
@[go_sem] theorem zeroT_5 : zeroT Try.prog 5 = true := by kernel_rfl
@[go_sem] theorem zeroOk_5 : zeroOk Try.prog 5 = true := by kernel_rfl
@[go_sem] theorem bytesOf_5 : bytesOf Try.prog 5 = 1 := by kernel_rfl
@[go_sem] theorem zeroD_5 : zeroD Try.prog 5 = [.v (.int .u8 0)] := by kernel_rfl
@[go_sem] theorem okT_6 : okT Try.prog 6 = true := by kernel_rfl
@[go_sem] theorem szOf_6 : szOf Try.prog 6 = 1 := by kernel_rfl
@[go_sem] theorem aggT_6 : aggT Try.prog 6 = false := by kernel_rfl
@[go_sem] theorem undS_6 : (Try.prog.underlying 6).isSome = true := by kernel_rfl
@[go_sem] theorem infS_6 : (Try.prog.info? 6).isSome = true := by kernel_rfl
@[go_sem] theorem ifaceT_6 : ifaceT Try.prog 6 = false := by kernel_rfl
@[go_sem] theorem zeroT_6 : zeroT Try.prog 6 = true := by kernel_rfl
@[go_sem] theorem zeroOk_6 : zeroOk Try.prog 6 = true := by kernel_rfl
@[go_sem] theorem bytesOf_6 : bytesOf Try.prog 6 = 1 := by kernel_rfl
@[go_sem] theorem zeroD_6 : zeroD Try.prog 6 = [.v (.int .u8 0)] := by kernel_rfl
@[go_sem] theorem okT_7 : okT Try.prog 7 = true := by kernel_rfl
@[go_sem] theorem szOf_7 : szOf Try.prog 7 = 4 := by kernel_rfl
@[go_sem] theorem aggT_7 : aggT Try.prog 7 = true := by kernel_rfl
@[go_sem] theorem undS_7 : (Try.prog.underlying 7).isSome = true := by kernel_rfl
@[go_sem] theorem infS_7 : (Try.prog.info? 7).isSome = true := by kernel_rfl
@[go_sem] theorem ifaceT_7 : ifaceT Try.prog 7 = false := by kernel_rfl
@[go_sem] theorem zeroT_7 : zeroT Try.prog 7 = true := by kernel_rfl
@[go_sem] theorem zeroOk_7 : zeroOk Try.prog 7 = true := by kernel_rfl
@[go_sem] theorem bytesOf_7 : bytesOf Try.prog 7 = 24 := by kernel_rfl
@[go_sem] theorem zeroD_7 : zeroD Try.prog 7 = [.v (.int .i64 0), .v (.int .i64 0), .v (.bool false), .v (.int .u8 0)] := by kernel_rfl
@[go_sem] theorem fld_7_0 : fld Try.prog 7 0 = some (0, 2) := by kernel_rfl
@[go_sem] theorem fld_7_1 : fld Try.prog 7 1 = some (1, 3) := by kernel_rfl
@[go_sem] theorem fld_7_2 : fld Try.prog 7 2 = some (2, 4) := by kernel_rfl
@[go_sem] theorem fld_7_3 : fld Try.prog 7 3 = some (3, 6) := by kernel_rfl
noncomputable def pl7 : Nat → Option (Nat × Nat) := (placeT Try.prog 7).getD fun _ => none
@[go_sem] theorem placeT_7 : placeT Try.prog 7 = some pl7 := by kernel_rfl
@[go_sem] theorem pl_7_0 : pl7 0 = some (0, 1) := by kernel_rfl
@[go_sem] theorem pl_7_1 : pl7 1 = some (1, 1) := by kernel_rfl
@[go_sem] theorem pl_7_2 : pl7 2 = some (2, 1) := by kernel_rfl
@[go_sem] theorem pl_7_3 : pl7 3 = some (3, 1) := by kernel_rfl
@[go_sem] theorem okT_8 : okT Try.prog 8 = true := by kernel_rfl
@[go_sem] theorem szOf_8 : szOf Try.prog 8 = 4 := by kernel_rfl
@[go_sem] theorem aggT_8 : aggT Try.prog 8 = true := by kernel_rfl
@[go_sem] theorem undS_8 : (Try.prog.underlying 8).isSome = true := by kernel_rfl
@[go_sem] theorem infS_8 : (Try.prog.info? 8).isSome = true := by kernel_rfl
@[go_sem] theorem ifaceT_8 : ifaceT Try.prog 8 = false := by kernel_rfl
@[go_sem] theorem zeroT_8 : zeroT Try.prog 8 = true := by kernel_rfl
@[go_sem] theorem zeroOk_8 : zeroOk Try.prog 8 = true := by kernel_rfl
@[go_sem] theorem bytesOf_8 : bytesOf Try.prog 8 = 24 := by kernel_rfl
@[go_sem] theorem zeroD_8 : zeroD Try.prog 8 = [.v (.int .i64 0), .v (.int .i64 0), .v (.bool false), .v (.int .u8 0)] := by kernel_rfl
@[go_sem] theorem fld_8_0 : fld Try.prog 8 0 = some (0, 2) := by kernel_rfl
@[go_sem] theorem fld_8_1 : fld Try.prog 8 1 = some (1, 3) := by kernel_rfl
@[go_sem] theorem fld_8_2 : fld Try.prog 8 2 = some (2, 4) := by kernel_rfl
@[go_sem] theorem fld_8_3 : fld Try.prog 8 3 = some (3, 6) := by kernel_rfl
noncomputable def pl8 : Nat → Option (Nat × Nat) := (placeT Try.prog 8).getD fun _ => none
@[go_sem] theorem placeT_8 : placeT Try.prog 8 = some pl8 := by kernel_rfl
@[go_sem] theorem pl_8_0 : pl8 0 = some (0, 1) := by kernel_rfl
@[go_sem] theorem pl_8_1 : pl8 1 = some (1, 1) := by kernel_rfl
@[go_sem] theorem pl_8_2 : pl8 2 = some (2, 1) := by kernel_rfl
@[go_sem] theorem pl_8_3 : pl8 3 = some (3, 1) := by kernel_rfl
@[go_sem] theorem okT_9 : okT Try.prog 9 = true := by kernel_rfl
@[go_sem] theorem szOf_9 : szOf Try.prog 9 = 1 := by kernel_rfl
@[go_sem] theorem aggT_9 : aggT Try.prog 9 = false := by kernel_rfl
@[go_sem] theorem undS_9 : (Try.prog.underlying 9).isSome = true := by kernel_rfl
@[go_sem] theorem infS_9 : (Try.prog.info? 9).isSome = true := by kernel_rfl
@[go_sem] theorem ifaceT_9 : ifaceT Try.prog 9 = false := by kernel_rfl
@[go_sem] theorem zeroT_9 : zeroT Try.prog 9 = true := by kernel_rfl
@[go_sem] theorem zeroOk_9 : zeroOk Try.prog 9 = true := by kernel_rfl
@[go_sem] theorem bytesOf_9 : bytesOf Try.prog 9 = 16 := by kernel_rfl
@[go_sem] theorem zeroD_9 : zeroD Try.prog 9 = [.v (.string ⟨#[]⟩)] := by kernel_rfl
@[go_sem] theorem strT_9 : strT Try.prog 9 = true := by kernel_rfl
@[go_sem] theorem bul_9 (s : ByteArray) (ty : TypeId) (cs : Array Bool) : dbuiltin Try.prog .len #[9] ty cs [.v (.string s)] = some (True, .v (.int .i64 s.size)) := bu_slen s _ ty cs strT_9
@[go_sem] theorem okT_10 : okT Try.prog 10 = true := by kernel_rfl
@[go_sem] theorem szOf_10 : szOf Try.prog 10 = 1 := by kernel_rfl
@[go_sem] theorem aggT_10 : aggT Try.prog 10 = false := by kernel_rfl
@[go_sem] theorem undS_10 : (Try.prog.underlying 10).isSome = true := by kernel_rfl
@[go_sem] theorem infS_10 : (Try.prog.info? 10).isSome = true := by kernel_rfl
@[go_sem] theorem ifaceT_10 : ifaceT Try.prog 10 = false := by kernel_rfl
@[go_sem] theorem zeroT_10 : zeroT Try.prog 10 = true := by kernel_rfl
@[go_sem] theorem zeroOk_10 : zeroOk Try.prog 10 = true := by kernel_rfl
@[go_sem] theorem bytesOf_10 : bytesOf Try.prog 10 = 16 := by kernel_rfl
@[go_sem] theorem zeroD_10 : zeroD Try.prog 10 = [.v (.string ⟨#[]⟩)] := by kernel_rfl
@[go_sem] theorem strT_10 : strT Try.prog 10 = true := by kernel_rfl
@[go_sem] theorem bul_10 (s : ByteArray) (ty : TypeId) (cs : Array Bool) : dbuiltin Try.prog .len #[10] ty cs [.v (.string s)] = some (True, .v (.int .i64 s.size)) := bu_slen s _ ty cs strT_10
@[go_sem] theorem okT_11 : okT Try.prog 11 = true := by kernel_rfl
@[go_sem] theorem szOf_11 : szOf Try.prog 11 = 1 := by kernel_rfl
@[go_sem] theorem aggT_11 : aggT Try.prog 11 = false := by kernel_rfl
@[go_sem] theorem undS_11 : (Try.prog.underlying 11).isSome = true := by kernel_rfl
@[go_sem] theorem infS_11 : (Try.prog.info? 11).isSome = true := by kernel_rfl
@[go_sem] theorem ifaceT_11 : ifaceT Try.prog 11 = false := by kernel_rfl
@[go_sem] theorem zeroT_11 : zeroT Try.prog 11 = true := by kernel_rfl
@[go_sem] theorem zeroOk_11 : zeroOk Try.prog 11 = true := by kernel_rfl
@[go_sem] theorem bytesOf_11 : bytesOf Try.prog 11 = 16 := by kernel_rfl
@[go_sem] theorem zeroD_11 : zeroD Try.prog 11 = [.v (.string ⟨#[]⟩)] := by kernel_rfl
@[go_sem] theorem strT_11 : strT Try.prog 11 = true := by kernel_rfl
@[go_sem] theorem bul_11 (s : ByteArray) (ty : TypeId) (cs : Array Bool) : dbuiltin Try.prog .len #[11] ty cs [.v (.string s)] = some (True, .v (.int .i64 s.size)) := bu_slen s _ ty cs strT_11
@[go_sem] theorem okT_12 : okT Try.prog 12 = true := by kernel_rfl
@[go_sem] theorem szOf_12 : szOf Try.prog 12 = 1 := by kernel_rfl
@[go_sem] theorem aggT_12 : aggT Try.prog 12 = false := by kernel_rfl
@[go_sem] theorem undS_12 : (Try.prog.underlying 12).isSome = true := by kernel_rfl
@[go_sem] theorem infS_12 : (Try.prog.info? 12).isSome = true := by kernel_rfl
@[go_sem] theorem ifaceT_12 : ifaceT Try.prog 12 = false := by kernel_rfl
@[go_sem] theorem zeroT_12 : zeroT Try.prog 12 = true := by kernel_rfl
@[go_sem] theorem zeroOk_12 : zeroOk Try.prog 12 = true := by kernel_rfl
@[go_sem] theorem bytesOf_12 : bytesOf Try.prog 12 = 8 := by kernel_rfl
@[go_sem] theorem zeroD_12 : zeroD Try.prog 12 = [.v (.int .u64 0)] := by kernel_rfl
@[go_sem] theorem okT_13 : okT Try.prog 13 = true := by kernel_rfl
@[go_sem] theorem szOf_13 : szOf Try.prog 13 = 2 := by kernel_rfl
@[go_sem] theorem aggT_13 : aggT Try.prog 13 = true := by kernel_rfl
@[go_sem] theorem undS_13 : (Try.prog.underlying 13).isSome = true := by kernel_rfl
@[go_sem] theorem infS_13 : (Try.prog.info? 13).isSome = true := by kernel_rfl
@[go_sem] theorem ifaceT_13 : ifaceT Try.prog 13 = false := by kernel_rfl
@[go_sem] theorem zeroT_13 : zeroT Try.prog 13 = true := by kernel_rfl
@[go_sem] theorem zeroOk_13 : zeroOk Try.prog 13 = true := by kernel_rfl
@[go_sem] theorem bytesOf_13 : bytesOf Try.prog 13 = 24 := by kernel_rfl
@[go_sem] theorem zeroD_13 : zeroD Try.prog 13 = [.v (.string ⟨#[]⟩), .v (.int .u64 0)] := by kernel_rfl
@[go_sem] theorem fld_13_0 : fld Try.prog 13 0 = some (0, 9) := by kernel_rfl
@[go_sem] theorem fld_13_1 : fld Try.prog 13 1 = some (1, 12) := by kernel_rfl
noncomputable def pl13 : Nat → Option (Nat × Nat) := (placeT Try.prog 13).getD fun _ => none
@[go_sem] theorem placeT_13 : placeT Try.prog 13 = some pl13 := by kernel_rfl
@[go_sem] theorem pl_13_0 : pl13 0 = some (0, 1) := by kernel_rfl
@[go_sem] theorem pl_13_1 : pl13 1 = some (1, 1) := by kernel_rfl
@[go_sem] theorem okT_14 : okT Try.prog 14 = true := by kernel_rfl
@[go_sem] theorem szOf_14 : szOf Try.prog 14 = 2 := by kernel_rfl
@[go_sem] theorem aggT_14 : aggT Try.prog 14 = true := by kernel_rfl
@[go_sem] theorem undS_14 : (Try.prog.underlying 14).isSome = true := by kernel_rfl
@[go_sem] theorem infS_14 : (Try.prog.info? 14).isSome = true := by kernel_rfl
@[go_sem] theorem ifaceT_14 : ifaceT Try.prog 14 = false := by kernel_rfl
@[go_sem] theorem zeroT_14 : zeroT Try.prog 14 = true := by kernel_rfl
@[go_sem] theorem zeroOk_14 : zeroOk Try.prog 14 = true := by kernel_rfl
@[go_sem] theorem bytesOf_14 : bytesOf Try.prog 14 = 24 := by kernel_rfl
@[go_sem] theorem zeroD_14 : zeroD Try.prog 14 = [.v (.string ⟨#[]⟩), .v (.int .u64 0)] := by kernel_rfl
@[go_sem] theorem fld_14_0 : fld Try.prog 14 0 = some (0, 9) := by kernel_rfl
@[go_sem] theorem fld_14_1 : fld Try.prog 14 1 = some (1, 12) := by kernel_rfl
noncomputable def pl14 : Nat → Option (Nat × Nat) := (placeT Try.prog 14).getD fun _ => none
@[go_sem] theorem placeT_14 : placeT Try.prog 14 = some pl14 := by kernel_rfl
@[go_sem] theorem pl_14_0 : pl14 0 = some (0, 1) := by kernel_rfl
@[go_sem] theorem pl_14_1 : pl14 1 = some (1, 1) := by kernel_rfl
@[go_sem] theorem okT_15 : okT Try.prog 15 = true := by kernel_rfl
@[go_sem] theorem szOf_15 : szOf Try.prog 15 = 1 := by kernel_rfl
@[go_sem] theorem aggT_15 : aggT Try.prog 15 = false := by kernel_rfl
@[go_sem] theorem undS_15 : (Try.prog.underlying 15).isSome = true := by kernel_rfl
@[go_sem] theorem infS_15 : (Try.prog.info? 15).isSome = true := by kernel_rfl
@[go_sem] theorem ifaceT_15 : ifaceT Try.prog 15 = false := by kernel_rfl
@[go_sem] theorem zeroT_15 : zeroT Try.prog 15 = true := by kernel_rfl
@[go_sem] theorem zeroOk_15 : zeroOk Try.prog 15 = true := by kernel_rfl
@[go_sem] theorem bytesOf_15 : bytesOf Try.prog 15 = 8 := by kernel_rfl
@[go_sem] theorem zeroD_15 : zeroD Try.prog 15 = [.v (.pointer none)] := by kernel_rfl
@[go_sem] theorem okT_17 : okT Try.prog 17 = true := by kernel_rfl
@[go_sem] theorem szOf_17 : szOf Try.prog 17 = 1 := by kernel_rfl
@[go_sem] theorem aggT_17 : aggT Try.prog 17 = false := by kernel_rfl
@[go_sem] theorem undS_17 : (Try.prog.underlying 17).isSome = true := by kernel_rfl
@[go_sem] theorem infS_17 : (Try.prog.info? 17).isSome = true := by kernel_rfl
@[go_sem] theorem ifaceT_17 : ifaceT Try.prog 17 = false := by kernel_rfl
@[go_sem] theorem zeroT_17 : zeroT Try.prog 17 = true := by kernel_rfl
@[go_sem] theorem zeroOk_17 : zeroOk Try.prog 17 = true := by kernel_rfl
@[go_sem] theorem bytesOf_17 : bytesOf Try.prog 17 = 8 := by kernel_rfl
@[go_sem] theorem zeroD_17 : zeroD Try.prog 17 = [.v (.pointer none)] := by kernel_rfl
@[go_sem] theorem okT_18 : okT Try.prog 18 = true := by kernel_rfl
@[go_sem] theorem szOf_18 : szOf Try.prog 18 = 1 := by kernel_rfl
@[go_sem] theorem aggT_18 : aggT Try.prog 18 = true := by kernel_rfl
@[go_sem] theorem undS_18 : (Try.prog.underlying 18).isSome = true := by kernel_rfl
@[go_sem] theorem infS_18 : (Try.prog.info? 18).isSome = true := by kernel_rfl
@[go_sem] theorem ifaceT_18 : ifaceT Try.prog 18 = false := by kernel_rfl
@[go_sem] theorem zeroT_18 : zeroT Try.prog 18 = true := by kernel_rfl
@[go_sem] theorem zeroOk_18 : zeroOk Try.prog 18 = true := by kernel_rfl
@[go_sem] theorem bytesOf_18 : bytesOf Try.prog 18 = 8 := by kernel_rfl
@[go_sem] theorem zeroD_18 : zeroD Try.prog 18 = [.v (.pointer none)] := by kernel_rfl
@[go_sem] theorem fld_18_0 : fld Try.prog 18 0 = some (0, 17) := by kernel_rfl
noncomputable def pl18 : Nat → Option (Nat × Nat) := (placeT Try.prog 18).getD fun _ => none
@[go_sem] theorem placeT_18 : placeT Try.prog 18 = some pl18 := by kernel_rfl
@[go_sem] theorem pl_18_0 : pl18 0 = some (0, 1) := by kernel_rfl
@[go_sem] theorem okT_19 : okT Try.prog 19 = true := by kernel_rfl
@[go_sem] theorem szOf_19 : szOf Try.prog 19 = 1 := by kernel_rfl
@[go_sem] theorem aggT_19 : aggT Try.prog 19 = true := by kernel_rfl
@[go_sem] theorem undS_19 : (Try.prog.underlying 19).isSome = true := by kernel_rfl
@[go_sem] theorem infS_19 : (Try.prog.info? 19).isSome = true := by kernel_rfl
@[go_sem] theorem ifaceT_19 : ifaceT Try.prog 19 = false := by kernel_rfl
@[go_sem] theorem zeroT_19 : zeroT Try.prog 19 = true := by kernel_rfl
@[go_sem] theorem zeroOk_19 : zeroOk Try.prog 19 = true := by kernel_rfl
@[go_sem] theorem bytesOf_19 : bytesOf Try.prog 19 = 8 := by kernel_rfl
@[go_sem] theorem zeroD_19 : zeroD Try.prog 19 = [.v (.pointer none)] := by kernel_rfl
@[go_sem] theorem fld_19_0 : fld Try.prog 19 0 = some (0, 17) := by kernel_rfl
noncomputable def pl19 : Nat → Option (Nat × Nat) := (placeT Try.prog 19).getD fun _ => none
@[go_sem] theorem placeT_19 : placeT Try.prog 19 = some pl19 := by kernel_rfl
@[go_sem] theorem pl_19_0 : pl19 0 = some (0, 1) := by kernel_rfl
@[go_sem] theorem okT_20 : okT Try.prog 20 = true := by kernel_rfl
@[go_sem] theorem szOf_20 : szOf Try.prog 20 = 1 := by kernel_rfl
@[go_sem] theorem aggT_20 : aggT Try.prog 20 = false := by kernel_rfl
@[go_sem] theorem undS_20 : (Try.prog.underlying 20).isSome = true := by kernel_rfl
@[go_sem] theorem infS_20 : (Try.prog.info? 20).isSome = true := by kernel_rfl
@[go_sem] theorem ifaceT_20 : ifaceT Try.prog 20 = true := by kernel_rfl
@[go_sem] theorem zeroT_20 : zeroT Try.prog 20 = true := by kernel_rfl
@[go_sem] theorem zeroOk_20 : zeroOk Try.prog 20 = true := by kernel_rfl
@[go_sem] theorem bytesOf_20 : bytesOf Try.prog 20 = 16 := by kernel_rfl
@[go_sem] theorem zeroD_20 : zeroD Try.prog 20 = [.v .nilIface] := by kernel_rfl
@[go_sem] theorem okT_21 : okT Try.prog 21 = true := by kernel_rfl
@[go_sem] theorem szOf_21 : szOf Try.prog 21 = 1 := by kernel_rfl
@[go_sem] theorem aggT_21 : aggT Try.prog 21 = false := by kernel_rfl
@[go_sem] theorem undS_21 : (Try.prog.underlying 21).isSome = true := by kernel_rfl
@[go_sem] theorem infS_21 : (Try.prog.info? 21).isSome = true := by kernel_rfl
@[go_sem] theorem ifaceT_21 : ifaceT Try.prog 21 = false := by kernel_rfl
@[go_sem] theorem zeroT_21 : zeroT Try.prog 21 = true := by kernel_rfl
@[go_sem] theorem zeroOk_21 : zeroOk Try.prog 21 = true := by kernel_rfl
@[go_sem] theorem bytesOf_21 : bytesOf Try.prog 21 = 4 := by kernel_rfl
@[go_sem] theorem zeroD_21 : zeroD Try.prog 21 = [.v (.int .i32 0)] := by kernel_rfl
@[go_sem] theorem okT_22 : okT Try.prog 22 = true := by kernel_rfl
@[go_sem] theorem szOf_22 : szOf Try.prog 22 = 1 := by kernel_rfl
@[go_sem] theorem aggT_22 : aggT Try.prog 22 = false := by kernel_rfl
@[go_sem] theorem undS_22 : (Try.prog.underlying 22).isSome = true := by kernel_rfl
@[go_sem] theorem infS_22 : (Try.prog.info? 22).isSome = true := by kernel_rfl
@[go_sem] theorem ifaceT_22 : ifaceT Try.prog 22 = false := by kernel_rfl
@[go_sem] theorem zeroT_22 : zeroT Try.prog 22 = true := by kernel_rfl
@[go_sem] theorem zeroOk_22 : zeroOk Try.prog 22 = true := by kernel_rfl
@[go_sem] theorem bytesOf_22 : bytesOf Try.prog 22 = 24 := by kernel_rfl
@[go_sem] theorem zeroD_22 : zeroD Try.prog 22 = [.sl .full []] := by kernel_rfl
@[go_sem] theorem elT_22 : elT Try.prog 22 = some 9 := by kernel_rfl
@[go_sem] theorem bul_22 (own : Own) (es : List D) (ty : TypeId) (cs : Array Bool) : dbuiltin Try.prog .len #[22] ty cs [.sl own es] = some (True, .v (.int .i64 es.length)) := bu_len own es _ ty cs elT_22
@[go_sem] theorem okT_23 : okT Try.prog 23 = true := by kernel_rfl
@[go_sem] theorem szOf_23 : szOf Try.prog 23 = 1 := by kernel_rfl
@[go_sem] theorem aggT_23 : aggT Try.prog 23 = false := by kernel_rfl
@[go_sem] theorem undS_23 : (Try.prog.underlying 23).isSome = true := by kernel_rfl
@[go_sem] theorem infS_23 : (Try.prog.info? 23).isSome = true := by kernel_rfl
@[go_sem] theorem ifaceT_23 : ifaceT Try.prog 23 = false := by kernel_rfl
@[go_sem] theorem zeroT_23 : zeroT Try.prog 23 = true := by kernel_rfl
@[go_sem] theorem zeroOk_23 : zeroOk Try.prog 23 = true := by kernel_rfl
@[go_sem] theorem bytesOf_23 : bytesOf Try.prog 23 = 24 := by kernel_rfl
@[go_sem] theorem zeroD_23 : zeroD Try.prog 23 = [.sl .full []] := by kernel_rfl
@[go_sem] theorem elT_23 : elT Try.prog 23 = some 25 := by kernel_rfl
@[go_sem] theorem bul_23 (own : Own) (es : List D) (ty : TypeId) (cs : Array Bool) : dbuiltin Try.prog .len #[23] ty cs [.sl own es] = some (True, .v (.int .i64 es.length)) := bu_len own es _ ty cs elT_23
@[go_sem] theorem okT_25 : okT Try.prog 25 = true := by kernel_rfl
@[go_sem] theorem szOf_25 : szOf Try.prog 25 = 3 := by kernel_rfl
@[go_sem] theorem aggT_25 : aggT Try.prog 25 = true := by kernel_rfl
@[go_sem] theorem undS_25 : (Try.prog.underlying 25).isSome = true := by kernel_rfl
@[go_sem] theorem infS_25 : (Try.prog.info? 25).isSome = true := by kernel_rfl
@[go_sem] theorem ifaceT_25 : ifaceT Try.prog 25 = false := by kernel_rfl
@[go_sem] theorem zeroT_25 : zeroT Try.prog 25 = true := by kernel_rfl
@[go_sem] theorem zeroOk_25 : zeroOk Try.prog 25 = true := by kernel_rfl
@[go_sem] theorem bytesOf_25 : bytesOf Try.prog 25 = 56 := by kernel_rfl
@[go_sem] theorem zeroD_25 : zeroD Try.prog 25 = [.v (.int .i64 0), .sl .full [], .sl .full []] := by kernel_rfl
@[go_sem] theorem fld_25_0 : fld Try.prog 25 0 = some (0, 3) := by kernel_rfl
@[go_sem] theorem fld_25_1 : fld Try.prog 25 1 = some (1, 22) := by kernel_rfl
@[go_sem] theorem fld_25_2 : fld Try.prog 25 2 = some (2, 23) := by kernel_rfl
noncomputable def pl25 : Nat → Option (Nat × Nat) := (placeT Try.prog 25).getD fun _ => none
@[go_sem] theorem placeT_25 : placeT Try.prog 25 = some pl25 := by kernel_rfl
@[go_sem] theorem pl_25_0 : pl25 0 = some (0, 1) := by kernel_rfl
@[go_sem] theorem pl_25_1 : pl25 1 = some (1, 1) := by kernel_rfl
@[go_sem] theorem pl_25_2 : pl25 2 = some (2, 1) := by kernel_rfl
@[go_sem] theorem okT_26 : okT Try.prog 26 = true := by kernel_rfl
@[go_sem] theorem szOf_26 : szOf Try.prog 26 = 1 := by kernel_rfl
@[go_sem] theorem aggT_26 : aggT Try.prog 26 = false := by kernel_rfl
@[go_sem] theorem undS_26 : (Try.prog.underlying 26).isSome = true := by kernel_rfl
@[go_sem] theorem infS_26 : (Try.prog.info? 26).isSome = true := by kernel_rfl
@[go_sem] theorem ifaceT_26 : ifaceT Try.prog 26 = false := by kernel_rfl
@[go_sem] theorem zeroT_26 : zeroT Try.prog 26 = true := by kernel_rfl
@[go_sem] theorem zeroOk_26 : zeroOk Try.prog 26 = true := by kernel_rfl
@[go_sem] theorem bytesOf_26 : bytesOf Try.prog 26 = 8 := by kernel_rfl
@[go_sem] theorem zeroD_26 : zeroD Try.prog 26 = [.v .nilFunc] := by kernel_rfl
@[go_sem] theorem okT_28 : okT Try.prog 28 = true := by kernel_rfl
@[go_sem] theorem szOf_28 : szOf Try.prog 28 = 1 := by kernel_rfl
@[go_sem] theorem aggT_28 : aggT Try.prog 28 = false := by kernel_rfl
@[go_sem] theorem undS_28 : (Try.prog.underlying 28).isSome = true := by kernel_rfl
@[go_sem] theorem infS_28 : (Try.prog.info? 28).isSome = true := by kernel_rfl
@[go_sem] theorem ifaceT_28 : ifaceT Try.prog 28 = false := by kernel_rfl
@[go_sem] theorem zeroT_28 : zeroT Try.prog 28 = true := by kernel_rfl
@[go_sem] theorem zeroOk_28 : zeroOk Try.prog 28 = true := by kernel_rfl
@[go_sem] theorem bytesOf_28 : bytesOf Try.prog 28 = 24 := by kernel_rfl
@[go_sem] theorem zeroD_28 : zeroD Try.prog 28 = [.sl .full []] := by kernel_rfl
@[go_sem] theorem elT_28 : elT Try.prog 28 = some 52 := by kernel_rfl
@[go_sem] theorem bul_28 (own : Own) (es : List D) (ty : TypeId) (cs : Array Bool) : dbuiltin Try.prog .len #[28] ty cs [.sl own es] = some (True, .v (.int .i64 es.length)) := bu_len own es _ ty cs elT_28
@[go_sem] theorem okT_29 : okT Try.prog 29 = true := by kernel_rfl
@[go_sem] theorem szOf_29 : szOf Try.prog 29 = 1 := by kernel_rfl
@[go_sem] theorem aggT_29 : aggT Try.prog 29 = false := by kernel_rfl
@[go_sem] theorem undS_29 : (Try.prog.underlying 29).isSome = true := by kernel_rfl
@[go_sem] theorem infS_29 : (Try.prog.info? 29).isSome = true := by kernel_rfl
@[go_sem] theorem ifaceT_29 : ifaceT Try.prog 29 = false := by kernel_rfl
@[go_sem] theorem zeroT_29 : zeroT Try.prog 29 = true := by kernel_rfl
@[go_sem] theorem zeroOk_29 : zeroOk Try.prog 29 = true := by kernel_rfl
@[go_sem] theorem bytesOf_29 : bytesOf Try.prog 29 = 24 := by kernel_rfl
@[go_sem] theorem zeroD_29 : zeroD Try.prog 29 = [.sl .full []] := by kernel_rfl
@[go_sem] theorem elT_29 : elT Try.prog 29 = some 31 := by kernel_rfl
@[go_sem] theorem bul_29 (own : Own) (es : List D) (ty : TypeId) (cs : Array Bool) : dbuiltin Try.prog .len #[29] ty cs [.sl own es] = some (True, .v (.int .i64 es.length)) := bu_len own es _ ty cs elT_29
@[go_sem] theorem okT_30 : okT Try.prog 30 = true := by kernel_rfl
@[go_sem] theorem szOf_30 : szOf Try.prog 30 = 6 := by kernel_rfl
@[go_sem] theorem aggT_30 : aggT Try.prog 30 = true := by kernel_rfl
@[go_sem] theorem undS_30 : (Try.prog.underlying 30).isSome = true := by kernel_rfl
@[go_sem] theorem infS_30 : (Try.prog.info? 30).isSome = true := by kernel_rfl
@[go_sem] theorem ifaceT_30 : ifaceT Try.prog 30 = false := by kernel_rfl
@[go_sem] theorem zeroT_30 : zeroT Try.prog 30 = true := by kernel_rfl
@[go_sem] theorem zeroOk_30 : zeroOk Try.prog 30 = true := by kernel_rfl
@[go_sem] theorem bytesOf_30 : bytesOf Try.prog 30 = 104 := by kernel_rfl
@[go_sem] theorem zeroD_30 : zeroD Try.prog 30 = [.v (.int .i64 0), .v (.int .i64 0), .v (.string ⟨#[]⟩), .sl .full [], .sl .full [], .sl .full []] := by kernel_rfl
@[go_sem] theorem fld_30_0 : fld Try.prog 30 0 = some (0, 3) := by kernel_rfl
@[go_sem] theorem fld_30_1 : fld Try.prog 30 1 = some (1, 3) := by kernel_rfl
@[go_sem] theorem fld_30_2 : fld Try.prog 30 2 = some (2, 9) := by kernel_rfl
@[go_sem] theorem fld_30_3 : fld Try.prog 30 3 = some (3, 22) := by kernel_rfl
@[go_sem] theorem fld_30_4 : fld Try.prog 30 4 = some (4, 28) := by kernel_rfl
@[go_sem] theorem fld_30_5 : fld Try.prog 30 5 = some (5, 29) := by kernel_rfl
noncomputable def pl30 : Nat → Option (Nat × Nat) := (placeT Try.prog 30).getD fun _ => none
@[go_sem] theorem placeT_30 : placeT Try.prog 30 = some pl30 := by kernel_rfl
@[go_sem] theorem pl_30_0 : pl30 0 = some (0, 1) := by kernel_rfl
@[go_sem] theorem pl_30_1 : pl30 1 = some (1, 1) := by kernel_rfl
@[go_sem] theorem pl_30_2 : pl30 2 = some (2, 1) := by kernel_rfl
@[go_sem] theorem pl_30_3 : pl30 3 = some (3, 1) := by kernel_rfl
@[go_sem] theorem pl_30_4 : pl30 4 = some (4, 1) := by kernel_rfl
@[go_sem] theorem pl_30_5 : pl30 5 = some (5, 1) := by kernel_rfl
@[go_sem] theorem okT_31 : okT Try.prog 31 = true := by kernel_rfl
@[go_sem] theorem szOf_31 : szOf Try.prog 31 = 6 := by kernel_rfl
@[go_sem] theorem aggT_31 : aggT Try.prog 31 = true := by kernel_rfl
@[go_sem] theorem undS_31 : (Try.prog.underlying 31).isSome = true := by kernel_rfl
@[go_sem] theorem infS_31 : (Try.prog.info? 31).isSome = true := by kernel_rfl
@[go_sem] theorem ifaceT_31 : ifaceT Try.prog 31 = false := by kernel_rfl
@[go_sem] theorem zeroT_31 : zeroT Try.prog 31 = true := by kernel_rfl
@[go_sem] theorem zeroOk_31 : zeroOk Try.prog 31 = true := by kernel_rfl
@[go_sem] theorem bytesOf_31 : bytesOf Try.prog 31 = 104 := by kernel_rfl
@[go_sem] theorem zeroD_31 : zeroD Try.prog 31 = [.v (.int .i64 0), .v (.int .i64 0), .v (.string ⟨#[]⟩), .sl .full [], .sl .full [], .sl .full []] := by kernel_rfl
@[go_sem] theorem fld_31_0 : fld Try.prog 31 0 = some (0, 3) := by kernel_rfl
@[go_sem] theorem fld_31_1 : fld Try.prog 31 1 = some (1, 3) := by kernel_rfl
@[go_sem] theorem fld_31_2 : fld Try.prog 31 2 = some (2, 9) := by kernel_rfl
@[go_sem] theorem fld_31_3 : fld Try.prog 31 3 = some (3, 22) := by kernel_rfl
@[go_sem] theorem fld_31_4 : fld Try.prog 31 4 = some (4, 28) := by kernel_rfl
@[go_sem] theorem fld_31_5 : fld Try.prog 31 5 = some (5, 29) := by kernel_rfl
noncomputable def pl31 : Nat → Option (Nat × Nat) := (placeT Try.prog 31).getD fun _ => none
@[go_sem] theorem placeT_31 : placeT Try.prog 31 = some pl31 := by kernel_rfl
@[go_sem] theorem pl_31_0 : pl31 0 = some (0, 1) := by kernel_rfl
@[go_sem] theorem pl_31_1 : pl31 1 = some (1, 1) := by kernel_rfl
@[go_sem] theorem pl_31_2 : pl31 2 = some (2, 1) := by kernel_rfl
@[go_sem] theorem pl_31_3 : pl31 3 = some (3, 1) := by kernel_rfl
@[go_sem] theorem pl_31_4 : pl31 4 = some (4, 1) := by kernel_rfl
@[go_sem] theorem pl_31_5 : pl31 5 = some (5, 1) := by kernel_rfl
@[go_sem] theorem okT_32 : okT Try.prog 32 = true := by kernel_rfl
@[go_sem] theorem szOf_32 : szOf Try.prog 32 = 1 := by kernel_rfl
@[go_sem] theorem aggT_32 : aggT Try.prog 32 = false := by kernel_rfl
@[go_sem] theorem undS_32 : (Try.prog.underlying 32).isSome = true := by kernel_rfl
@[go_sem] theorem infS_32 : (Try.prog.info? 32).isSome = true := by kernel_rfl
@[go_sem] theorem ifaceT_32 : ifaceT Try.prog 32 = false := by kernel_rfl
@[go_sem] theorem zeroT_32 : zeroT Try.prog 32 = true := by kernel_rfl
@[go_sem] theorem zeroOk_32 : zeroOk Try.prog 32 = true := by kernel_rfl
@[go_sem] theorem bytesOf_32 : bytesOf Try.prog 32 = 8 := by kernel_rfl
@[go_sem] theorem zeroD_32 : zeroD Try.prog 32 = [.v .nilFunc] := by kernel_rfl
@[go_sem] theorem okT_33 : okT Try.prog 33 = true := by kernel_rfl
@[go_sem] theorem szOf_33 : szOf Try.prog 33 = 1 := by kernel_rfl
@[go_sem] theorem aggT_33 : aggT Try.prog 33 = false := by kernel_rfl
@[go_sem] theorem undS_33 : (Try.prog.underlying 33).isSome = true := by kernel_rfl
@[go_sem] theorem infS_33 : (Try.prog.info? 33).isSome = true := by kernel_rfl
@[go_sem] theorem ifaceT_33 : ifaceT Try.prog 33 = false := by kernel_rfl
@[go_sem] theorem zeroT_33 : zeroT Try.prog 33 = true := by kernel_rfl
@[go_sem] theorem zeroOk_33 : zeroOk Try.prog 33 = true := by kernel_rfl
@[go_sem] theorem bytesOf_33 : bytesOf Try.prog 33 = 8 := by kernel_rfl
@[go_sem] theorem zeroD_33 : zeroD Try.prog 33 = [.v .nilFunc] := by kernel_rfl
@[go_sem] theorem okT_34 : okT Try.prog 34 = true := by kernel_rfl
@[go_sem] theorem szOf_34 : szOf Try.prog 34 = 1 := by kernel_rfl
@[go_sem] theorem aggT_34 : aggT Try.prog 34 = false := by kernel_rfl
@[go_sem] theorem undS_34 : (Try.prog.underlying 34).isSome = true := by kernel_rfl
@[go_sem] theorem infS_34 : (Try.prog.info? 34).isSome = true := by kernel_rfl
@[go_sem] theorem ifaceT_34 : ifaceT Try.prog 34 = false := by kernel_rfl
@[go_sem] theorem zeroT_34 : zeroT Try.prog 34 = true := by kernel_rfl
@[go_sem] theorem zeroOk_34 : zeroOk Try.prog 34 = true := by kernel_rfl
@[go_sem] theorem bytesOf_34 : bytesOf Try.prog 34 = 8 := by kernel_rfl
@[go_sem] theorem zeroD_34 : zeroD Try.prog 34 = [.v .nilFunc] := by kernel_rfl
@[go_sem] theorem okT_35 : okT Try.prog 35 = true := by kernel_rfl
@[go_sem] theorem szOf_35 : szOf Try.prog 35 = 1 := by kernel_rfl
@[go_sem] theorem aggT_35 : aggT Try.prog 35 = false := by kernel_rfl
@[go_sem] theorem undS_35 : (Try.prog.underlying 35).isSome = true := by kernel_rfl
@[go_sem] theorem infS_35 : (Try.prog.info? 35).isSome = true := by kernel_rfl
@[go_sem] theorem ifaceT_35 : ifaceT Try.prog 35 = false := by kernel_rfl
@[go_sem] theorem zeroT_35 : zeroT Try.prog 35 = true := by kernel_rfl
@[go_sem] theorem zeroOk_35 : zeroOk Try.prog 35 = true := by kernel_rfl
@[go_sem] theorem bytesOf_35 : bytesOf Try.prog 35 = 8 := by kernel_rfl
@[go_sem] theorem zeroD_35 : zeroD Try.prog 35 = [.v .nilFunc] := by kernel_rfl
@[go_sem] theorem okT_36 : okT Try.prog 36 = true := by kernel_rfl
@[go_sem] theorem szOf_36 : szOf Try.prog 36 = 1 := by kernel_rfl
@[go_sem] theorem aggT_36 : aggT Try.prog 36 = false := by kernel_rfl
@[go_sem] theorem undS_36 : (Try.prog.underlying 36).isSome = true := by kernel_rfl
@[go_sem] theorem infS_36 : (Try.prog.info? 36).isSome = true := by kernel_rfl
@[go_sem] theorem ifaceT_36 : ifaceT Try.prog 36 = false := by kernel_rfl
@[go_sem] theorem zeroT_36 : zeroT Try.prog 36 = true := by kernel_rfl
@[go_sem] theorem zeroOk_36 : zeroOk Try.prog 36 = true := by kernel_rfl
@[go_sem] theorem bytesOf_36 : bytesOf Try.prog 36 = 8 := by kernel_rfl
@[go_sem] theorem zeroD_36 : zeroD Try.prog 36 = [.v .nilFunc] := by kernel_rfl
@[go_sem] theorem okT_37 : okT Try.prog 37 = true := by kernel_rfl
@[go_sem] theorem szOf_37 : szOf Try.prog 37 = 1 := by kernel_rfl
@[go_sem] theorem aggT_37 : aggT Try.prog 37 = false := by kernel_rfl
@[go_sem] theorem undS_37 : (Try.prog.underlying 37).isSome = true := by kernel_rfl
@[go_sem] theorem infS_37 : (Try.prog.info? 37).isSome = true := by kernel_rfl
@[go_sem] theorem ifaceT_37 : ifaceT Try.prog 37 = false := by kernel_rfl
@[go_sem] theorem zeroT_37 : zeroT Try.prog 37 = true := by kernel_rfl
@[go_sem] theorem zeroOk_37 : zeroOk Try.prog 37 = true := by kernel_rfl
@[go_sem] theorem bytesOf_37 : bytesOf Try.prog 37 = 8 := by kernel_rfl
@[go_sem] theorem zeroD_37 : zeroD Try.prog 37 = [.v .nilFunc] := by kernel_rfl
@[go_sem] theorem okT_38 : okT Try.prog 38 = true := by kernel_rfl
@[go_sem] theorem szOf_38 : szOf Try.prog 38 = 1 := by kernel_rfl
@[go_sem] theorem aggT_38 : aggT Try.prog 38 = false := by kernel_rfl
@[go_sem] theorem undS_38 : (Try.prog.underlying 38).isSome = true := by kernel_rfl
@[go_sem] theorem infS_38 : (Try.prog.info? 38).isSome = true := by kernel_rfl
@[go_sem] theorem ifaceT_38 : ifaceT Try.prog 38 = false := by kernel_rfl
@[go_sem] theorem zeroT_38 : zeroT Try.prog 38 = true := by kernel_rfl
@[go_sem] theorem zeroOk_38 : zeroOk Try.prog 38 = true := by kernel_rfl
@[go_sem] theorem bytesOf_38 : bytesOf Try.prog 38 = 24 := by kernel_rfl
@[go_sem] theorem zeroD_38 : zeroD Try.prog 38 = [.sl .full []] := by kernel_rfl
@[go_sem] theorem elT_38 : elT Try.prog 38 = some 42 := by kernel_rfl
@[go_sem] theorem bul_38 (own : Own) (es : List D) (ty : TypeId) (cs : Array Bool) : dbuiltin Try.prog .len #[38] ty cs [.sl own es] = some (True, .v (.int .i64 es.length)) := bu_len own es _ ty cs elT_38
@[go_sem] theorem okT_42 : okT Try.prog 42 = true := by kernel_rfl
@[go_sem] theorem szOf_42 : szOf Try.prog 42 = 1 := by kernel_rfl
@[go_sem] theorem aggT_42 : aggT Try.prog 42 = false := by kernel_rfl
@[go_sem] theorem undS_42 : (Try.prog.underlying 42).isSome = true := by kernel_rfl
@[go_sem] theorem infS_42 : (Try.prog.info? 42).isSome = true := by kernel_rfl
@[go_sem] theorem ifaceT_42 : ifaceT Try.prog 42 = false := by kernel_rfl
@[go_sem] theorem zeroT_42 : zeroT Try.prog 42 = true := by kernel_rfl
@[go_sem] theorem zeroOk_42 : zeroOk Try.prog 42 = true := by kernel_rfl
@[go_sem] theorem bytesOf_42 : bytesOf Try.prog 42 = 24 := by kernel_rfl
@[go_sem] theorem zeroD_42 : zeroD Try.prog 42 = [.sl .full []] := by kernel_rfl
@[go_sem] theorem elT_42 : elT Try.prog 42 = some 81 := by kernel_rfl
@[go_sem] theorem bul_42 (own : Own) (es : List D) (ty : TypeId) (cs : Array Bool) : dbuiltin Try.prog .len #[42] ty cs [.sl own es] = some (True, .v (.int .i64 es.length)) := bu_len own es _ ty cs elT_42
@[go_sem] theorem okT_44 : okT Try.prog 44 = true := by kernel_rfl
@[go_sem] theorem szOf_44 : szOf Try.prog 44 = 1 := by kernel_rfl
@[go_sem] theorem aggT_44 : aggT Try.prog 44 = false := by kernel_rfl
@[go_sem] theorem undS_44 : (Try.prog.underlying 44).isSome = true := by kernel_rfl
@[go_sem] theorem infS_44 : (Try.prog.info? 44).isSome = true := by kernel_rfl
@[go_sem] theorem ifaceT_44 : ifaceT Try.prog 44 = false := by kernel_rfl
@[go_sem] theorem zeroT_44 : zeroT Try.prog 44 = true := by kernel_rfl
@[go_sem] theorem zeroOk_44 : zeroOk Try.prog 44 = true := by kernel_rfl
@[go_sem] theorem bytesOf_44 : bytesOf Try.prog 44 = 8 := by kernel_rfl
@[go_sem] theorem zeroD_44 : zeroD Try.prog 44 = [.v .nilFunc] := by kernel_rfl
@[go_sem] theorem okT_45 : okT Try.prog 45 = true := by kernel_rfl
@[go_sem] theorem szOf_45 : szOf Try.prog 45 = 1 := by kernel_rfl
@[go_sem] theorem aggT_45 : aggT Try.prog 45 = false := by kernel_rfl
@[go_sem] theorem undS_45 : (Try.prog.underlying 45).isSome = true := by kernel_rfl
@[go_sem] theorem infS_45 : (Try.prog.info? 45).isSome = true := by kernel_rfl
@[go_sem] theorem ifaceT_45 : ifaceT Try.prog 45 = false := by kernel_rfl
@[go_sem] theorem zeroT_45 : zeroT Try.prog 45 = true := by kernel_rfl
@[go_sem] theorem zeroOk_45 : zeroOk Try.prog 45 = true := by kernel_rfl
@[go_sem] theorem bytesOf_45 : bytesOf Try.prog 45 = 8 := by kernel_rfl
@[go_sem] theorem zeroD_45 : zeroD Try.prog 45 = [.v .nilFunc] := by kernel_rfl
@[go_sem] theorem okT_52 : okT Try.prog 52 = true := by kernel_rfl
@[go_sem] theorem szOf_52 : szOf Try.prog 52 = 1 := by kernel_rfl
@[go_sem] theorem aggT_52 : aggT Try.prog 52 = false := by kernel_rfl
@[go_sem] theorem undS_52 : (Try.prog.underlying 52).isSome = true := by kernel_rfl
@[go_sem] theorem infS_52 : (Try.prog.info? 52).isSome = true := by kernel_rfl
@[go_sem] theorem ifaceT_52 : ifaceT Try.prog 52 = false := by kernel_rfl
@[go_sem] theorem zeroT_52 : zeroT Try.prog 52 = true := by kernel_rfl
@[go_sem] theorem zeroOk_52 : zeroOk Try.prog 52 = true := by kernel_rfl
@[go_sem] theorem bytesOf_52 : bytesOf Try.prog 52 = 8 := by kernel_rfl
@[go_sem] theorem zeroD_52 : zeroD Try.prog 52 = [.v (.int .u64 0)] := by kernel_rfl
@[go_sem] theorem okT_59 : okT Try.prog 59 = true := by kernel_rfl
@[go_sem] theorem szOf_59 : szOf Try.prog 59 = 1 := by kernel_rfl
@[go_sem] theorem aggT_59 : aggT Try.prog 59 = false := by kernel_rfl
@[go_sem] theorem undS_59 : (Try.prog.underlying 59).isSome = true := by kernel_rfl
@[go_sem] theorem infS_59 : (Try.prog.info? 59).isSome = true := by kernel_rfl
@[go_sem] theorem ifaceT_59 : ifaceT Try.prog 59 = false := by kernel_rfl
@[go_sem] theorem zeroT_59 : zeroT Try.prog 59 = true := by kernel_rfl
@[go_sem] theorem zeroOk_59 : zeroOk Try.prog 59 = true := by kernel_rfl
@[go_sem] theorem bytesOf_59 : bytesOf Try.prog 59 = 8 := by kernel_rfl
@[go_sem] theorem zeroD_59 : zeroD Try.prog 59 = [.v .nilFunc] := by kernel_rfl
@[go_sem] theorem okT_61 : okT Try.prog 61 = true := by kernel_rfl
@[go_sem] theorem szOf_61 : szOf Try.prog 61 = 1 := by kernel_rfl
@[go_sem] theorem aggT_61 : aggT Try.prog 61 = false := by kernel_rfl
@[go_sem] theorem undS_61 : (Try.prog.underlying 61).isSome = true := by kernel_rfl
@[go_sem] theorem infS_61 : (Try.prog.info? 61).isSome = true := by kernel_rfl
@[go_sem] theorem ifaceT_61 : ifaceT Try.prog 61 = false := by kernel_rfl
@[go_sem] theorem zeroT_61 : zeroT Try.prog 61 = true := by kernel_rfl
@[go_sem] theorem zeroOk_61 : zeroOk Try.prog 61 = true := by kernel_rfl
@[go_sem] theorem bytesOf_61 : bytesOf Try.prog 61 = 24 := by kernel_rfl
@[go_sem] theorem zeroD_61 : zeroD Try.prog 61 = [.sl .full []] := by kernel_rfl
@[go_sem] theorem elT_61 : elT Try.prog 61 = some 5 := by kernel_rfl
@[go_sem] theorem bul_61 (own : Own) (es : List D) (ty : TypeId) (cs : Array Bool) : dbuiltin Try.prog .len #[61] ty cs [.sl own es] = some (True, .v (.int .i64 es.length)) := bu_len own es _ ty cs elT_61
@[go_sem] theorem okT_63 : okT Try.prog 63 = true := by kernel_rfl
@[go_sem] theorem szOf_63 : szOf Try.prog 63 = 1 := by kernel_rfl
@[go_sem] theorem aggT_63 : aggT Try.prog 63 = true := by kernel_rfl
@[go_sem] theorem undS_63 : (Try.prog.underlying 63).isSome = true := by kernel_rfl
@[go_sem] theorem infS_63 : (Try.prog.info? 63).isSome = true := by kernel_rfl
@[go_sem] theorem ifaceT_63 : ifaceT Try.prog 63 = false := by kernel_rfl
@[go_sem] theorem zeroT_63 : zeroT Try.prog 63 = true := by kernel_rfl
@[go_sem] theorem zeroOk_63 : zeroOk Try.prog 63 = true := by kernel_rfl
@[go_sem] theorem bytesOf_63 : bytesOf Try.prog 63 = 24 := by kernel_rfl
@[go_sem] theorem zeroD_63 : zeroD Try.prog 63 = [.sl .full []] := by kernel_rfl
@[go_sem] theorem fld_63_0 : fld Try.prog 63 0 = some (0, 61) := by kernel_rfl
noncomputable def pl63 : Nat → Option (Nat × Nat) := (placeT Try.prog 63).getD fun _ => none
@[go_sem] theorem placeT_63 : placeT Try.prog 63 = some pl63 := by kernel_rfl
@[go_sem] theorem pl_63_0 : pl63 0 = some (0, 1) := by kernel_rfl
@[go_sem] theorem okT_65 : okT Try.prog 65 = true := by kernel_rfl
@[go_sem] theorem szOf_65 : szOf Try.prog 65 = 1 := by kernel_rfl
@[go_sem] theorem aggT_65 : aggT Try.prog 65 = false := by kernel_rfl
@[go_sem] theorem undS_65 : (Try.prog.underlying 65).isSome = true := by kernel_rfl
@[go_sem] theorem infS_65 : (Try.prog.info? 65).isSome = true := by kernel_rfl
@[go_sem] theorem ifaceT_65 : ifaceT Try.prog 65 = false := by kernel_rfl
@[go_sem] theorem zeroT_65 : zeroT Try.prog 65 = true := by kernel_rfl
@[go_sem] theorem zeroOk_65 : zeroOk Try.prog 65 = true := by kernel_rfl
@[go_sem] theorem bytesOf_65 : bytesOf Try.prog 65 = 8 := by kernel_rfl
@[go_sem] theorem zeroD_65 : zeroD Try.prog 65 = [.v (.pointer none)] := by kernel_rfl
@[go_sem] theorem okT_67 : okT Try.prog 67 = true := by kernel_rfl
@[go_sem] theorem szOf_67 : szOf Try.prog 67 = 1 := by kernel_rfl
@[go_sem] theorem aggT_67 : aggT Try.prog 67 = false := by kernel_rfl
@[go_sem] theorem undS_67 : (Try.prog.underlying 67).isSome = true := by kernel_rfl
@[go_sem] theorem infS_67 : (Try.prog.info? 67).isSome = true := by kernel_rfl
@[go_sem] theorem ifaceT_67 : ifaceT Try.prog 67 = false := by kernel_rfl
@[go_sem] theorem zeroT_67 : zeroT Try.prog 67 = true := by kernel_rfl
@[go_sem] theorem zeroOk_67 : zeroOk Try.prog 67 = true := by kernel_rfl
@[go_sem] theorem bytesOf_67 : bytesOf Try.prog 67 = 8 := by kernel_rfl
@[go_sem] theorem zeroD_67 : zeroD Try.prog 67 = [.v (.pointer none)] := by kernel_rfl
@[go_sem] theorem okT_73 : okT Try.prog 73 = true := by kernel_rfl
@[go_sem] theorem szOf_73 : szOf Try.prog 73 = 1 := by kernel_rfl
@[go_sem] theorem aggT_73 : aggT Try.prog 73 = false := by kernel_rfl
@[go_sem] theorem undS_73 : (Try.prog.underlying 73).isSome = true := by kernel_rfl
@[go_sem] theorem infS_73 : (Try.prog.info? 73).isSome = true := by kernel_rfl
@[go_sem] theorem ifaceT_73 : ifaceT Try.prog 73 = true := by kernel_rfl
@[go_sem] theorem zeroT_73 : zeroT Try.prog 73 = true := by kernel_rfl
@[go_sem] theorem zeroOk_73 : zeroOk Try.prog 73 = true := by kernel_rfl
@[go_sem] theorem bytesOf_73 : bytesOf Try.prog 73 = 16 := by kernel_rfl
@[go_sem] theorem zeroD_73 : zeroD Try.prog 73 = [.v .nilIface] := by kernel_rfl
@[go_sem] theorem okT_81 : okT Try.prog 81 = true := by kernel_rfl
@[go_sem] theorem szOf_81 : szOf Try.prog 81 = 2 := by kernel_rfl
@[go_sem] theorem aggT_81 : aggT Try.prog 81 = true := by kernel_rfl
@[go_sem] theorem undS_81 : (Try.prog.underlying 81).isSome = true := by kernel_rfl
@[go_sem] theorem infS_81 : (Try.prog.info? 81).isSome = true := by kernel_rfl
@[go_sem] theorem ifaceT_81 : ifaceT Try.prog 81 = false := by kernel_rfl
@[go_sem] theorem zeroT_81 : zeroT Try.prog 81 = true := by kernel_rfl
@[go_sem] theorem zeroOk_81 : zeroOk Try.prog 81 = true := by kernel_rfl
@[go_sem] theorem bytesOf_81 : bytesOf Try.prog 81 = 24 := by kernel_rfl
@[go_sem] theorem zeroD_81 : zeroD Try.prog 81 = [.v (.string ⟨#[]⟩), .v (.int .u64 0)] := by kernel_rfl
@[go_sem] theorem fld_81_0 : fld Try.prog 81 0 = some (0, 9) := by kernel_rfl
@[go_sem] theorem fld_81_1 : fld Try.prog 81 1 = some (1, 52) := by kernel_rfl
noncomputable def pl81 : Nat → Option (Nat × Nat) := (placeT Try.prog 81).getD fun _ => none
@[go_sem] theorem placeT_81 : placeT Try.prog 81 = some pl81 := by kernel_rfl
@[go_sem] theorem pl_81_0 : pl81 0 = some (0, 1) := by kernel_rfl
@[go_sem] theorem pl_81_1 : pl81 1 = some (1, 1) := by kernel_rfl
@[go_sem] theorem okT_95 : okT Try.prog 95 = true := by kernel_rfl
@[go_sem] theorem szOf_95 : szOf Try.prog 95 = 1 := by kernel_rfl
@[go_sem] theorem aggT_95 : aggT Try.prog 95 = false := by kernel_rfl
@[go_sem] theorem undS_95 : (Try.prog.underlying 95).isSome = true := by kernel_rfl
@[go_sem] theorem infS_95 : (Try.prog.info? 95).isSome = true := by kernel_rfl
@[go_sem] theorem ifaceT_95 : ifaceT Try.prog 95 = false := by kernel_rfl
@[go_sem] theorem zeroT_95 : zeroT Try.prog 95 = true := by kernel_rfl
@[go_sem] theorem zeroOk_95 : zeroOk Try.prog 95 = true := by kernel_rfl
@[go_sem] theorem bytesOf_95 : bytesOf Try.prog 95 = 8 := by kernel_rfl
@[go_sem] theorem zeroD_95 : zeroD Try.prog 95 = [.v .nilFunc] := by kernel_rfl
@[go_sem] theorem okT_97 : okT Try.prog 97 = true := by kernel_rfl
@[go_sem] theorem szOf_97 : szOf Try.prog 97 = 3 := by kernel_rfl
@[go_sem] theorem aggT_97 : aggT Try.prog 97 = true := by kernel_rfl
@[go_sem] theorem undS_97 : (Try.prog.underlying 97).isSome = true := by kernel_rfl
@[go_sem] theorem infS_97 : (Try.prog.info? 97).isSome = true := by kernel_rfl
@[go_sem] theorem ifaceT_97 : ifaceT Try.prog 97 = false := by kernel_rfl
@[go_sem] theorem zeroT_97 : zeroT Try.prog 97 = true := by kernel_rfl
@[go_sem] theorem zeroOk_97 : zeroOk Try.prog 97 = true := by kernel_rfl
@[go_sem] theorem bytesOf_97 : bytesOf Try.prog 97 = 48 := by kernel_rfl
@[go_sem] theorem zeroD_97 : zeroD Try.prog 97 = [.sl .full [], .v (.int .i64 0), .v .nilIface] := by kernel_rfl
@[go_sem] theorem fld_97_0 : fld Try.prog 97 0 = some (0, 61) := by kernel_rfl
@[go_sem] theorem fld_97_1 : fld Try.prog 97 1 = some (1, 3) := by kernel_rfl
@[go_sem] theorem fld_97_2 : fld Try.prog 97 2 = some (2, 73) := by kernel_rfl
noncomputable def pl97 : Nat → Option (Nat × Nat) := (placeT Try.prog 97).getD fun _ => none
@[go_sem] theorem placeT_97 : placeT Try.prog 97 = some pl97 := by kernel_rfl
@[go_sem] theorem pl_97_0 : pl97 0 = some (0, 1) := by kernel_rfl
@[go_sem] theorem pl_97_1 : pl97 1 = some (1, 1) := by kernel_rfl
@[go_sem] theorem pl_97_2 : pl97 2 = some (2, 1) := by kernel_rfl
@[go_sem] theorem okT_100 : okT Try.prog 100 = true := by kernel_rfl
@[go_sem] theorem szOf_100 : szOf Try.prog 100 = 1 := by kernel_rfl
@[go_sem] theorem aggT_100 : aggT Try.prog 100 = false := by kernel_rfl
@[go_sem] theorem undS_100 : (Try.prog.underlying 100).isSome = true := by kernel_rfl
@[go_sem] theorem infS_100 : (Try.prog.info? 100).isSome = true := by kernel_rfl
@[go_sem] theorem ifaceT_100 : ifaceT Try.prog 100 = false := by kernel_rfl
@[go_sem] theorem zeroT_100 : zeroT Try.prog 100 = true := by kernel_rfl
@[go_sem] theorem zeroOk_100 : zeroOk Try.prog 100 = true := by kernel_rfl
@[go_sem] theorem bytesOf_100 : bytesOf Try.prog 100 = 8 := by kernel_rfl
@[go_sem] theorem zeroD_100 : zeroD Try.prog 100 = [.v (.int .i64 0)] := by kernel_rfl
@[go_sem] theorem okT_118 : okT Try.prog 118 = true := by kernel_rfl
@[go_sem] theorem szOf_118 : szOf Try.prog 118 = 1 := by kernel_rfl
@[go_sem] theorem aggT_118 : aggT Try.prog 118 = false := by kernel_rfl
@[go_sem] theorem undS_118 : (Try.prog.underlying 118).isSome = true := by kernel_rfl
@[go_sem] theorem infS_118 : (Try.prog.info? 118).isSome = true := by kernel_rfl
@[go_sem] theorem ifaceT_118 : ifaceT Try.prog 118 = false := by kernel_rfl
@[go_sem] theorem zeroT_118 : zeroT Try.prog 118 = true := by kernel_rfl
@[go_sem] theorem zeroOk_118 : zeroOk Try.prog 118 = true := by kernel_rfl
@[go_sem] theorem bytesOf_118 : bytesOf Try.prog 118 = 8 := by kernel_rfl
@[go_sem] theorem zeroD_118 : zeroD Try.prog 118 = [.v .nilFunc] := by kernel_rfl
@[go_sem] theorem okT_125 : okT Try.prog 125 = true := by kernel_rfl
@[go_sem] theorem szOf_125 : szOf Try.prog 125 = 1 := by kernel_rfl
@[go_sem] theorem aggT_125 : aggT Try.prog 125 = false := by kernel_rfl
@[go_sem] theorem undS_125 : (Try.prog.underlying 125).isSome = true := by kernel_rfl
@[go_sem] theorem infS_125 : (Try.prog.info? 125).isSome = true := by kernel_rfl
@[go_sem] theorem ifaceT_125 : ifaceT Try.prog 125 = false := by kernel_rfl
@[go_sem] theorem zeroT_125 : zeroT Try.prog 125 = true := by kernel_rfl
@[go_sem] theorem zeroOk_125 : zeroOk Try.prog 125 = true := by kernel_rfl
@[go_sem] theorem bytesOf_125 : bytesOf Try.prog 125 = 8 := by kernel_rfl
@[go_sem] theorem zeroD_125 : zeroD Try.prog 125 = [.v .nilFunc] := by kernel_rfl
@[go_sem] theorem okT_127 : okT Try.prog 127 = true := by kernel_rfl
@[go_sem] theorem szOf_127 : szOf Try.prog 127 = 1 := by kernel_rfl
@[go_sem] theorem aggT_127 : aggT Try.prog 127 = false := by kernel_rfl
@[go_sem] theorem undS_127 : (Try.prog.underlying 127).isSome = true := by kernel_rfl
@[go_sem] theorem infS_127 : (Try.prog.info? 127).isSome = true := by kernel_rfl
@[go_sem] theorem ifaceT_127 : ifaceT Try.prog 127 = false := by kernel_rfl
@[go_sem] theorem zeroT_127 : zeroT Try.prog 127 = true := by kernel_rfl
@[go_sem] theorem zeroOk_127 : zeroOk Try.prog 127 = true := by kernel_rfl
@[go_sem] theorem bytesOf_127 : bytesOf Try.prog 127 = 24 := by kernel_rfl
@[go_sem] theorem zeroD_127 : zeroD Try.prog 127 = [.sl .full []] := by kernel_rfl
@[go_sem] theorem elT_127 : elT Try.prog 127 = some 73 := by kernel_rfl
@[go_sem] theorem bul_127 (own : Own) (es : List D) (ty : TypeId) (cs : Array Bool) : dbuiltin Try.prog .len #[127] ty cs [.sl own es] = some (True, .v (.int .i64 es.length)) := bu_len own es _ ty cs elT_127
@[go_sem] theorem okT_128 : okT Try.prog 128 = true := by kernel_rfl
@[go_sem] theorem szOf_128 : szOf Try.prog 128 = 1 := by kernel_rfl
@[go_sem] theorem aggT_128 : aggT Try.prog 128 = false := by kernel_rfl
@[go_sem] theorem undS_128 : (Try.prog.underlying 128).isSome = true := by kernel_rfl
@[go_sem] theorem infS_128 : (Try.prog.info? 128).isSome = true := by kernel_rfl
@[go_sem] theorem ifaceT_128 : ifaceT Try.prog 128 = false := by kernel_rfl
@[go_sem] theorem zeroT_128 : zeroT Try.prog 128 = true := by kernel_rfl
@[go_sem] theorem zeroOk_128 : zeroOk Try.prog 128 = true := by kernel_rfl
@[go_sem] theorem bytesOf_128 : bytesOf Try.prog 128 = 8 := by kernel_rfl
@[go_sem] theorem zeroD_128 : zeroD Try.prog 128 = [.v (.pointer none)] := by kernel_rfl
@[go_sem] theorem okT_130 : okT Try.prog 130 = true := by kernel_rfl
@[go_sem] theorem szOf_130 : szOf Try.prog 130 = 2 := by kernel_rfl
@[go_sem] theorem aggT_130 : aggT Try.prog 130 = true := by kernel_rfl
@[go_sem] theorem undS_130 : (Try.prog.underlying 130).isSome = true := by kernel_rfl
@[go_sem] theorem infS_130 : (Try.prog.info? 130).isSome = true := by kernel_rfl
@[go_sem] theorem ifaceT_130 : ifaceT Try.prog 130 = false := by kernel_rfl
@[go_sem] theorem zeroT_130 : zeroT Try.prog 130 = true := by kernel_rfl
@[go_sem] theorem zeroOk_130 : zeroOk Try.prog 130 = true := by kernel_rfl
@[go_sem] theorem bytesOf_130 : bytesOf Try.prog 130 = 24 := by kernel_rfl
@[go_sem] theorem zeroD_130 : zeroD Try.prog 130 = [.v (.int .i64 0), .v .nilIface] := by kernel_rfl
@[go_sem] theorem fld_130_0 : fld Try.prog 130 0 = some (0, 3) := by kernel_rfl
@[go_sem] theorem fld_130_1 : fld Try.prog 130 1 = some (1, 73) := by kernel_rfl
noncomputable def pl130 : Nat → Option (Nat × Nat) := (placeT Try.prog 130).getD fun _ => none
@[go_sem] theorem placeT_130 : placeT Try.prog 130 = some pl130 := by kernel_rfl
@[go_sem] theorem pl_130_0 : pl130 0 = some (0, 1) := by kernel_rfl
@[go_sem] theorem pl_130_1 : pl130 1 = some (1, 1) := by kernel_rfl
@[go_sem] theorem okT_147 : okT Try.prog 147 = true := by kernel_rfl
@[go_sem] theorem szOf_147 : szOf Try.prog 147 = 1 := by kernel_rfl
@[go_sem] theorem aggT_147 : aggT Try.prog 147 = false := by kernel_rfl
@[go_sem] theorem undS_147 : (Try.prog.underlying 147).isSome = true := by kernel_rfl
@[go_sem] theorem infS_147 : (Try.prog.info? 147).isSome = true := by kernel_rfl
@[go_sem] theorem ifaceT_147 : ifaceT Try.prog 147 = false := by kernel_rfl
@[go_sem] theorem zeroT_147 : zeroT Try.prog 147 = true := by kernel_rfl
@[go_sem] theorem zeroOk_147 : zeroOk Try.prog 147 = true := by kernel_rfl
@[go_sem] theorem bytesOf_147 : bytesOf Try.prog 147 = 8 := by kernel_rfl
@[go_sem] theorem zeroD_147 : zeroD Try.prog 147 = [.v .nilFunc] := by kernel_rfl
theorem mixed : Try.prog.follows .mixedOrders = true := by kernel_rfl
end Go.Proofs.Ytpnjkebjdclkfaa

/- The library at lists of strings. Conditions: none. -/
namespace Go.Proofs.Ytpnjkebjdclkfaa
open Go.RowKit

/-- Where the first one is of which p holds. -/
def IdxP (p : Nat → Bool) (n : Nat) (e : Ending) : Prop :=
  (∃ k : Nat, k < n ∧ e = .returned (.int .i64 k) ∧ p k = true ∧ ∀ r, r < k → p r = false) ∨ (e = .returned (.int .i64 (-1)) ∧ ∀ r, r < n → p r = false)
def IdxPost (p : Nat → Bool) (n : Nat) (w : World) (e : Ending) (w' : World) : Prop := IdxP p n e ∧ Below w.heap.size w w'
/-- One string ahead of another one. -/
def sLt (a b : Str) : Bool := Op.bytesLess a b
theorem sLt_iff (a b : Str) : sLt a b = decide (a < b) := bytesLess_eq _ _


set_option maxHeartbeats 1000000 in
set_option maxRecDepth 20000 in
theorem strF_index (K : Nat) (hK : ∀ (x : Array Value) W, (callFunc K x).run Try.prog W = .ok (.enter K x) W) (n : Nat) (A : Option Addr) (c : Nat) (V : Nat → Value) (p : Nat → Bool) (w : World) (hn : n ≤ 140737488351232)
    (hA : 0 < n → ∃ b o, A = some ⟨b, o, none⟩ ∧ b < w.heap.size ∧ ∀ i, i < n → w.cell? ⟨b, o + i, none⟩ = some (V i))
    (hcall : ∀ i, i < n → ∀ W, Below w.heap.size w W → Calls Try.prog K #[V i] W (Gives (.bool (p i)) W)) :
    Calls Try.prog 108 #[.slice A n c, .func (.func K) #[] #[]] w (IdxPost p n w) := by
  have HA := hide hA
  have HC := hide hcall
  clear hA hcall
  go_enter Try.func108, Try.ntmps108
  go_wp2_with fail
  go_loopw [8] (fun i wr => ∃ (k : Nat), i = .int .i64 k ∧ k ≤ n ∧ (∀ r, r < k → p r = false) ∧ Below w.heap.size w wr) (fun i _ => n - (intOf i).toNat)
  case atStart => exact ⟨0, rfl, Nat.zero_le _, fun r hr => by omega, Below.refl _ _⟩
  case round =>
    obtain ⟨k, rfl, hk, hno, hw⟩ := hrel
    obtain ⟨wo, rfl⟩ : ∃ wo : World, wo = wr := ⟨_, rfl⟩
    have GW := hide hw
    have GN := hide hno
    clear hw hno
    by_cases hlt : k < n
    · obtain ⟨b, o, rfl, hb, hV⟩ := HA.out (by omega)
      have hcall' := HC.out k hlt
      have hcell := (GW.out.cell (p := ⟨b, o + k, none⟩) hb).trans (hV k hlt)
      cases hx : p k
      all_goals
        have HX := hide hx
        rw [hx] at hcall'
        clear hx hV
        generalize V k = vk at *

        have HCL := hide hcall'
        clear hcall'
        go_wp2_with (fail)
        refine (HCL.out _ GW.out).mono ?_
        rintro e w1 ⟨rfl, hb1⟩
        have KW := hide (GW.out.trans (hb1.mono GW.out.size))
        clear hb1
      · go_wp2_with fail
        exact ⟨⟨k + 1, by go_num, by omega, fun r hr => by
          by_cases e : r = k
          · rw [e]; exact HX.out
          · exact GN.out r (by omega), KW.out⟩, by simp [intOf]; omega⟩
      · go_wp2
        go_ret
        exact ⟨.inl ⟨k, hlt, rfl, HX.out, GN.out⟩, KW.out⟩
    · obtain rfl : k = n := by omega
      go_wp2
      go_ret
      exact ⟨.inr ⟨rfl, GN.out⟩, GW.out⟩

set_option maxHeartbeats 400000 in
theorem strF_contains (K : Nat) (hK : ∀ (x : Array Value) W, (callFunc K x).run Try.prog W = .ok (.enter K x) W) (n : Nat) (A : Option Addr) (c : Nat) (V : Nat → Value) (p : Nat → Bool) (w : World) (hn : n ≤ 140737488351232)
    (hA : 0 < n → ∃ b o, A = some ⟨b, o, none⟩ ∧ b < w.heap.size ∧ ∀ i, i < n → w.cell? ⟨b, o + i, none⟩ = some (V i))
    (hcall : ∀ i, i < n → ∀ W, Below w.heap.size w W → Calls Try.prog K #[V i] W (Gives (.bool (p i)) W)) :
    Calls Try.prog 142 #[.slice A n c, .func (.func K) #[] #[]] w (Gives (.bool ((List.range n).any p)) w) := by
  have HI := hide (strF_index K hK n A c V p w hn hA hcall)
  clear hA hcall hK
  go_enter Try.func142, Try.ntmps142
  go_wp2_with fail
  refine HI.out.mono ?_
  rintro e w1 ⟨hi, hb⟩
  have HB := hide hb
  clear hb
  rcases hi with ⟨k, hk, rfl, hp, hno⟩ | ⟨rfl, hno⟩
  · have hx : (List.range n).any p = true := List.any_eq_true.2 ⟨k, List.mem_range.2 hk, hp⟩
    have HX := hide hx
    clear hx hp hno
    go_wp2
    go_ret
    exact ⟨ret_eq (by rw [HX.out]; rfl), HB.out⟩
  · have hx : (List.range n).any p = false := List.any_eq_false.2 fun r hr => by simp [hno r (List.mem_range.1 hr)]
    have HX := hide hx
    clear hx hno
    go_wp2
    go_ret
    exact ⟨ret_eq (by rw [HX.out]; rfl), HB.out⟩


set_option maxHeartbeats 1000000 in
set_option maxRecDepth 20000 in
theorem strG_index (K : Nat) (cap0 : Value) (hK : ∀ (x : Array Value) W, (callFunc K x).run Try.prog W = .ok (.enter K x) W) (n : Nat) (A : Option Addr) (c : Nat) (V : Nat → Value) (p : Nat → Bool) (w : World) (hn : n ≤ 140737488351232)
    (hA : 0 < n → ∃ b o, A = some ⟨b, o, none⟩ ∧ b < w.heap.size ∧ ∀ i, i < n → w.cell? ⟨b, o + i, none⟩ = some (V i))
    (hcall : ∀ i, i < n → ∀ W, Below w.heap.size w W → Calls Try.prog K #[V i, cap0] W (Gives (.bool (p i)) W)) :
    Calls Try.prog 108 #[.slice A n c, .func (.func K) #[] #[cap0]] w (IdxPost p n w) := by
  have HA := hide hA
  have HC := hide hcall
  clear hA hcall
  go_enter Try.func108, Try.ntmps108
  go_wp2_with fail
  go_loopw [8] (fun i wr => ∃ (k : Nat), i = .int .i64 k ∧ k ≤ n ∧ (∀ r, r < k → p r = false) ∧ Below w.heap.size w wr) (fun i _ => n - (intOf i).toNat)
  case atStart => exact ⟨0, rfl, Nat.zero_le _, fun r hr => by omega, Below.refl _ _⟩
  case round =>
    obtain ⟨k, rfl, hk, hno, hw⟩ := hrel
    obtain ⟨wo, rfl⟩ : ∃ wo : World, wo = wr := ⟨_, rfl⟩
    have GW := hide hw
    have GN := hide hno
    clear hw hno
    by_cases hlt : k < n
    · obtain ⟨b, o, rfl, hb, hV⟩ := HA.out (by omega)
      have hcall' := HC.out k hlt
      have hcell := (GW.out.cell (p := ⟨b, o + k, none⟩) hb).trans (hV k hlt)
      cases hx : p k
      all_goals
        have HX := hide hx
        rw [hx] at hcall'
        clear hx hV
        generalize V k = vk at *

        have HCL := hide hcall'
        clear hcall'
        go_wp2_with (fail)
        refine (HCL.out _ GW.out).mono ?_
        rintro e w1 ⟨rfl, hb1⟩
        have KW := hide (GW.out.trans (hb1.mono GW.out.size))
        clear hb1
      · go_wp2_with fail
        exact ⟨⟨k + 1, by go_num, by omega, fun r hr => by
          by_cases e : r = k
          · rw [e]; exact HX.out
          · exact GN.out r (by omega), KW.out⟩, by simp [intOf]; omega⟩
      · go_wp2
        go_ret
        exact ⟨.inl ⟨k, hlt, rfl, HX.out, GN.out⟩, KW.out⟩
    · obtain rfl : k = n := by omega
      go_wp2
      go_ret
      exact ⟨.inr ⟨rfl, GN.out⟩, GW.out⟩


set_option maxHeartbeats 400000 in
theorem isNaN_calls (a : Str) (w : World) : Calls Try.prog 155 #[sv a] w (fun e w' => e = .returned (.bool false) ∧ w = w') := by
  go_enter Try.func155, Try.ntmps155
  go_wp2
  go_ret
  exact ⟨ret_eq (by simp), rfl⟩
set_option maxHeartbeats 400000 in
theorem less_calls (a b : Str) (w : World) : Calls Try.prog 151 #[sv a, sv b] w (fun e w' => e = .returned (.bool (sLt a b)) ∧ w = w') := by
  go_enter Try.func151, Try.ntmps151
  go_wp2_with fail
  refine (isNaN_calls a _).mono ?_
  rintro e w1 ⟨rfl, rfl⟩
  go_wp2_with fail
  go_ret
  exact ⟨rfl, rfl⟩

set_option maxHeartbeats 1000000 in
theorem strIndex_calls (l : List Str) (x : Str) (A : Option Addr) (c : Nat) (w : World) (hr : RF w (· < w.heap.size) 1 A l.length (l.map sv)) (hn : l.length ≤ 140737488351232) :
    Calls Try.prog 102 #[.slice A l.length c, sv x] w (fun e w' => IdxP (fun i => decide (l[i]? = some x)) l.length e ∧ w = w') := by
  have HR := hide hr
  clear hr
  go_enter Try.func102, Try.ntmps102
  go_wp2_with fail
  go_loop [8] (fun i => ∃ (k : Nat), i = .int .i64 k ∧ k ≤ l.length ∧ (∀ r, r < k → l[r]? ≠ some x)) (fun i => l.length - (intOf i).toNat)
  case atStart => exact ⟨0, rfl, Nat.zero_le _, fun r hr => by omega⟩
  case round =>
    obtain ⟨k, rfl, hk, hno⟩ := hrel
    have GN := hide hno
    clear hno
    by_cases hlt : k < l.length
    · obtain ⟨b, o, rfl, hb, hc⟩ := HR.out.at_ hlt
      have hg : l[k]? = some l[k] := List.getElem?_eq_getElem hlt
      generalize l[k] = y at *
      have HG := hide hg
      clear hg
      by_cases hx : x = y
      · subst hx
        have hxx : (x == x) = true := by simp
        go_wp2
        go_ret
        exact ⟨.inl ⟨k, hlt, rfl, by simp [HG.out], fun r hr => by simpa using GN.out r hr⟩, rfl⟩
      · have hxx : (x == y) = false := by simpa using hx
        have HX := hide hx
        clear hx
        go_wp2_with fail
        exact ⟨⟨k + 1, by go_num, by omega, fun r hr => by
          by_cases e : r = k
          · rw [e, HG.out]; intro h; exact HX.out (Option.some.inj h).symm
          · exact GN.out r (by omega)⟩, by simp [intOf]; omega⟩
    · obtain rfl : k = l.length := by omega
      go_wp2
      go_ret
      exact ⟨.inr ⟨rfl, fun r hr => by simpa using GN.out r hr⟩, rfl⟩
set_option maxHeartbeats 400000 in
theorem strContains_calls (l : List Str) (x : Str) (A : Option Addr) (c : Nat) (w : World) (hr : RF w (· < w.heap.size) 1 A l.length (l.map sv)) (hn : l.length ≤ 140737488351232) :
    Calls Try.prog 101 #[.slice A l.length c, sv x] w (fun e w' => e = .returned (.bool (decide (x ∈ l))) ∧ w = w') := by
  have HI := hide (strIndex_calls l x A c w hr hn)
  clear hr
  go_enter Try.func101, Try.ntmps101
  go_wp2_with fail
  refine HI.out.mono ?_
  rintro e w1 ⟨hi, rfl⟩
  rcases hi with ⟨k, hk, rfl, hp, hno⟩ | ⟨rfl, hno⟩
  · have HX : Hid (decide (x ∈ l) = true) := hide (decide_eq_true (List.mem_of_getElem? (by simpa using hp)))
    clear hp hno
    go_wp2
    go_ret
    exact ⟨ret_eq (by rw [HX.out]; rfl), rfl⟩
  · have HX : Hid (decide (x ∈ l) = false) := hide (decide_eq_false fun hm => by
      obtain ⟨i, hi, e⟩ := List.getElem_of_mem hm
      have := hno i hi
      simp only [List.getElem?_eq_getElem hi, e] at this
      simp at this)
    clear hno
    go_wp2
    go_ret
    exact ⟨ret_eq (by rw [HX.out]; rfl), rfl⟩

/-- Unlike each other. -/
def unlikeB (l : List Str) : Bool := (List.range l.length).all fun i => !decide (l.getD i [] ∈ l.take i)
set_option maxHeartbeats 1000000 in
theorem unlike_calls (l : List Str) (A : Option Addr) (c : Nat) (w : World) (hr : RF w (· < w.heap.size) 1 A l.length (l.map sv)) (hn : l.length ≤ 140737488351232) (hc : l.length ≤ c) :
    Calls Try.prog 125 #[.slice A l.length c] w (fun e w' => e = .returned (.bool (unlikeB l)) ∧ w = w') := by
  have HR := hide hr
  clear hr
  go_enter Try.func125, Try.ntmps125
  go_wp2_with fail
  go_loop [7] (fun i => ∃ (k : Nat), i = .int .i64 k ∧ k ≤ l.length ∧ (∀ r, r < k → l.getD r [] ∉ l.take r)) (fun i => l.length - (intOf i).toNat)
  case atStart => exact ⟨0, rfl, Nat.zero_le _, fun r hr => by omega⟩
  case round =>
    obtain ⟨k, rfl, hk, hno⟩ := hrel
    have GN := hide hno
    clear hno
    by_cases hlt : k < l.length
    · obtain ⟨b, o, rfl, hb, hcell⟩ := HR.out.at_ hlt
      have hg : l.getD k [] = l[k] := by simp [List.getD, hlt]
      have HRT : Hid (RF w (· < w.heap.size) 1 (some ⟨b, o, none⟩) (l.take k).length ((l.take k).map sv)) := hide (by
        have := Reads.take (k := k) HR.out (by omega)
        rw [Nat.mul_one, ← List.map_take] at this
        rw [List.length_take, Nat.min_eq_left (by omega)]
        exact this)
      have hlen : (l.take k).length = k := by simp; omega
      have HC := hide (fun x => strContains_calls (l.take k) x (some ⟨b, o, none⟩) c w HRT.out (by omega))
      rw [hlen] at HC
      have HG := hide hg
      clear hg hlen
      generalize l[k] = y at *
      cases hx : decide (y ∈ l.take k)
      · have HX := hide hx
        clear hx
        go_wp2_with fail
        refine (HC.out y).mono ?_
        rintro e w1 ⟨rfl, rfl⟩
        rw [HX.out]
        go_wp2_with fail
        exact ⟨⟨k + 1, by go_num, by omega, fun r hr => by
          by_cases e : r = k
          · rw [e, HG.out]; exact of_decide_eq_false HX.out
          · exact GN.out r (by omega)⟩, by simp [intOf]; omega⟩
      · have HX := hide hx
        clear hx
        go_wp2_with fail
        refine (HC.out y).mono ?_
        rintro e w1 ⟨rfl, rfl⟩
        rw [HX.out]
        go_wp2
        go_ret
        exact ⟨ret_eq (by rw [show unlikeB l = false from List.all_eq_false.2 ⟨k, List.mem_range.2 hlt, by rw [HG.out, HX.out]; simp⟩]; rfl), rfl⟩
    · obtain rfl : k = l.length := by omega
      go_wp2
      go_ret
      exact ⟨ret_eq (by rw [show unlikeB l = true from List.all_eq_true.2 fun i hi => by simpa using GN.out i (List.mem_range.1 hi)]; rfl), rfl⟩

/-- None ahead of the one in front of it. -/
def sortedB (l : List Str) : Bool := (List.range (l.length - 1)).all fun i => !sLt (l.getD (i + 1) []) (l.getD i [])
set_option maxHeartbeats 1000000 in
set_option maxRecDepth 20000 in
theorem isSorted_calls (l : List Str) (A : Option Addr) (c : Nat) (w : World) (hr : RF w (· < w.heap.size) 1 A l.length (l.map sv)) (hn : l.length ≤ 140737488351232) :
    Calls Try.prog 144 #[.slice A l.length c] w (Gives (.bool (sortedB l)) w) := by
  have HR := hide hr
  clear hr
  go_enter Try.func144, Try.ntmps144
  go_wp2_with fail
  go_loopw [3] (fun i wr => ∃ (z : Int), i = .int .i64 z ∧ -1 ≤ z ∧ z < l.length ∧ (∀ r : Nat, z ≤ r → r + 1 < l.length → sLt (l.getD (r + 1) []) (l.getD r []) = false) ∧ Below w.heap.size w wr) (fun i _ => (intOf i).toNat)
  case atStart => exact ⟨(l.length : Int) - 1, rfl, by omega, by omega, fun r h1 h2 => by omega, Below.refl _ _⟩
  case round =>
    obtain ⟨z, rfl, hz, hzl, hno, hw⟩ := hrel
    have GN := hide hno
    have GW := hide hw
    clear hno hw
    obtain ⟨wo, rfl⟩ : ∃ wo : World, wo = wr := ⟨_, rfl⟩
    by_cases hz0 : 0 < z
    · obtain ⟨k, rfl⟩ : ∃ k : Nat, z = (k : Int) + 1 := ⟨(z - 1).toNat, by omega⟩
      have h1 : k + 1 < l.length := by omega
      have h0 : k < l.length := by omega
      obtain ⟨b, o, rfl, hb, hc1⟩ := HR.out.at_ h1
      obtain ⟨b', o', e', _, hc0⟩ := HR.out.at_ h0
      obtain ⟨rfl, rfl⟩ : b = b' ∧ o = o' := by injection e' with e'; injection e' with e1 e2; exact ⟨e1, e2⟩
      have hg1 : l.getD (k + 1) [] = l[k + 1] := by simp [List.getD, h1]
      have hg0 : l.getD k [] = l[k] := by simp [List.getD, h0]
      have HG := hide (And.intro hg1 hg0)
      have D1 : Hid (∀ W, Below wo.heap.size wo W → W.cell? ⟨b, o + (k + 1), none⟩ = some (sv l[k + 1])) := hide fun W hW => (hW.cell (p := ⟨b, o + (k + 1), none⟩) (Nat.lt_of_lt_of_le hb GW.out.size)).trans ((GW.out.cell (p := ⟨b, o + (k + 1), none⟩) hb).trans hc1)
      have D0 : Hid (∀ W, Below wo.heap.size wo W → W.cell? ⟨b, o + k, none⟩ = some (sv l[k])) := hide fun W hW => (hW.cell (p := ⟨b, o + k, none⟩) (Nat.lt_of_lt_of_le hb GW.out.size)).trans ((GW.out.cell (p := ⟨b, o + k, none⟩) hb).trans hc0)
      have j0 : (0 : Int) ≤ (k : Int) + 1 := by omega
      have j2 : (k : Int) + 1 < (l.length : Int) := by omega
      have j3 : (0 : Int) ≤ (k : Int) := by omega
      have j4 : (k : Int) < (l.length : Int) := by omega
      have j5 : ((k : Int) + 1).toNat = k + 1 := by omega
      have j6 : IntKind.i64.wrap (k : Int) = (k : Int) := IntWalk.i64_in _ (by omega)
      clear hg1 hg0 e' hc1 hc0
      generalize l[k + 1] = y at *
      generalize l[k] = x at *
      cases hx : sLt y x
      all_goals
        have HX := hide hx
        clear hx
        have HLC := hide (fun W => less_calls y x W)
        rw [HX.out] at HLC
        go_wp2_with fail
        refine wp_region_held_drew (S := fun w' => Below wo.heap.size wo w') (by kernel_rfl) (Below.refl _ _).drew (fun hHeld => ?_)
        (refine takeH (i := 0) (v := .slice (some ⟨b, o, none⟩) l.length c) rfl rfl (by kernel_rfl) (by kernel_rfl) (by kernel_rfl) (fun _ _ _ h => h) (by rfl) (fun wz hSw => by go_simp) hHeld ?_; simp only [Act.put, List.setIfInBounds_toArray, List.set_cons_zero, List.set_cons_succ])
        (refine takeH (i := 1) (v := .int .i64 ((k : Int) + 1)) rfl rfl (by kernel_rfl) (by kernel_rfl) (by kernel_rfl) (fun _ _ _ h => h) (by rfl) (fun wz hSw => by go_simp) hHeld ?_; simp only [Act.put, List.setIfInBounds_toArray, List.set_cons_zero, List.set_cons_succ])
        (refine takeH (i := 2) (v := .pointer (some ⟨b, o + (k + 1), none⟩)) rfl rfl (by kernel_rfl) (by kernel_rfl) (by kernel_rfl) (fun _ _ _ h => h) (by rfl) (fun wz hSw => by go_simp) hHeld ?_; simp only [Act.put, List.setIfInBounds_toArray, List.set_cons_zero, List.set_cons_succ])
        (refine takeH (i := 3) (v := sv y) rfl rfl (by kernel_rfl) (by kernel_rfl) (by kernel_rfl) (fun _ _ _ h => h) (by rfl) (fun wz hSw => by have hcx := D1.out _ hSw; go_simp) hHeld ?_; simp only [Act.put, List.setIfInBounds_toArray, List.set_cons_zero, List.set_cons_succ])
        (refine takeH (i := 4) (v := .slice (some ⟨b, o, none⟩) l.length c) rfl rfl (by kernel_rfl) (by kernel_rfl) (by kernel_rfl) (fun _ _ _ h => h) (by rfl) (fun wz hSw => by go_simp) hHeld ?_; simp only [Act.put, List.setIfInBounds_toArray, List.set_cons_zero, List.set_cons_succ])
        (refine takeH (i := 5) (v := .int .i64 ((k : Int) + 1)) rfl rfl (by kernel_rfl) (by kernel_rfl) (by kernel_rfl) (fun _ _ _ h => h) (by rfl) (fun wz hSw => by go_simp) hHeld ?_; simp only [Act.put, List.setIfInBounds_toArray, List.set_cons_zero, List.set_cons_succ])
        (refine takeH (i := 6) (v := .int .i64 (k : Int)) rfl rfl (by kernel_rfl) (by kernel_rfl) (by kernel_rfl) (fun _ _ _ h => h) (by rfl) (fun wz hSw => by go_simp) hHeld ?_; simp only [Act.put, List.setIfInBounds_toArray, List.set_cons_zero, List.set_cons_succ])
        (refine takeH (i := 7) (v := .pointer (some ⟨b, o + k, none⟩)) rfl rfl (by kernel_rfl) (by kernel_rfl) (by kernel_rfl) (fun _ _ _ h => h) (by rfl) (fun wz hSw => by go_simp) hHeld ?_; simp only [Act.put, List.setIfInBounds_toArray, List.set_cons_zero, List.set_cons_succ])
        (refine takeH (i := 8) (v := sv x) rfl rfl (by kernel_rfl) (by kernel_rfl) (by kernel_rfl) (fun _ _ _ h => h) (by rfl) (fun wz hSw => by have hcx := D0.out _ hSw; go_simp) hHeld ?_; simp only [Act.put, List.setIfInBounds_toArray, List.set_cons_zero, List.set_cons_succ])
        (refine oneH (i := 9) rfl (by kernel_rfl) (fun K hK => ?_); go_simp; refine (HLC.out _).mono ?_; rintro e w1 ⟨rfl, rfl⟩; refine hK.out _ _ (hHeld) (fun hHeld => ?_); clear hK K)
        refine wpAnyH_done (by kernel_rfl) ?_ _
        have KW := hide (GW.out.trans (hHeld.mono GW.out.size))
        clear hHeld j5 j6
      · go_wp2_with fail
        exact ⟨⟨(k : Int), rfl, by omega, by omega, fun r h1 h2 => by
          by_cases e : r = k
          · rw [e, HG.out.1, HG.out.2]; exact HX.out
          · exact GN.out r (by omega) h2, KW.out⟩, by simp [intOf]⟩
      · have HT : Hid (sortedB l = false) := hide (List.all_eq_false.2 ⟨k, List.mem_range.2 (by omega), by rw [HG.out.1, HG.out.2, HX.out]; simp⟩)
        clear GN
        go_wp2
        go_ret
        exact ⟨ret_eq (by rw [HT.out]; rfl), KW.out⟩
    · have HT : Hid (sortedB l = true) := hide (List.all_eq_true.2 fun i hi => by
        have := List.mem_range.1 hi
        rw [GN.out i (by omega) (by omega)]; rfl)
      clear GN
      go_wp2
      go_ret
      exact ⟨ret_eq (by rw [HT.out]; rfl), GW.out⟩

set_option maxHeartbeats 1000000 in
set_option maxRecDepth 20000 in
theorem strEqual_calls (l m : List Str) (A A2 : Option Addr) (c c2 : Nat) (w : World) (hr : RF w (· < w.heap.size) 1 A l.length (l.map sv)) (hr2 : RF w (· < w.heap.size) 1 A2 m.length (m.map sv)) (hn : l.length ≤ 140737488351232) (hm : m.length ≤ 140737488351232) :
    Calls Try.prog 61 #[.slice A l.length c, .slice A2 m.length c2] w (Gives (.bool (decide (l = m))) w) := by
  have HR := hide hr
  have HR2 := hide hr2
  clear hr hr2
  by_cases hlen : l.length = m.length
  · have hne : ((l.length : Int) != (m.length : Int)) = false := by simp [hlen]
    have HLen := hide hlen
    clear hlen
    go_enter Try.func61, Try.ntmps61
    go_wp2_with fail
    go_loopw [13] (fun i wr => ∃ (k : Nat), i = .int .i64 k ∧ k ≤ l.length ∧ l.take k = m.take k ∧ Below w.heap.size w wr) (fun i _ => l.length - (intOf i).toNat)
    case atStart => exact ⟨0, rfl, Nat.zero_le _, by simp, Below.refl _ _⟩
    case round =>
      obtain ⟨k, rfl, hk, heq, hw⟩ := hrel
      have GW := hide hw
      have GE := hide heq
      clear hw heq
      obtain ⟨wo, rfl⟩ : ∃ wo : World, wo = wr := ⟨_, rfl⟩
      by_cases hlt : k < l.length
      · have hlt2 : k < m.length := by rw [← HLen.out]; exact hlt
        obtain ⟨b, o, rfl, hb, hc1⟩ := HR.out.at_ hlt
        obtain ⟨b2, o2, rfl, hb2, hc2⟩ := HR2.out.at_ hlt2
        have D1 : Hid (∀ W, Below wo.heap.size wo W → W.cell? ⟨b, o + k, none⟩ = some (sv l[k])) := hide fun W hW => (hW.cell (p := ⟨b, o + k, none⟩) (Nat.lt_of_lt_of_le hb GW.out.size)).trans ((GW.out.cell (p := ⟨b, o + k, none⟩) hb).trans hc1)
        have D2 : Hid (∀ W, Below wo.heap.size wo W → W.cell? ⟨b2, o2 + k, none⟩ = some (sv m[k])) := hide fun W hW => (hW.cell (p := ⟨b2, o2 + k, none⟩) (Nat.lt_of_lt_of_le hb2 GW.out.size)).trans ((GW.out.cell (p := ⟨b2, o2 + k, none⟩) hb2).trans hc2)
        have j1 : (0 : Int) ≤ (k : Int) := by omega
        have j2 : (k : Int) < (l.length : Int) := by omega
        have j3 : (k : Int) < (m.length : Int) := by omega
        have HT : Hid (l[k] = m[k] → l.take (k + 1) = m.take (k + 1)) := hide fun e => by rw [List.take_succ_eq_append_getElem hlt, List.take_succ_eq_append_getElem hlt2, GE.out, e]
        have HD : Hid (l[k] ≠ m[k] → decide (l = m) = false) := hide fun e => by
          rw [decide_eq_false_iff_not]
          rintro rfl
          exact e rfl
        clear hc1 hc2
        generalize l[k] = x at *
        generalize m[k] = y at *
        cases hx : (x == y)
        all_goals
          have HX := hide hx
          go_wp2_with fail
          refine wp_region_held_drew (S := fun w' => Below wo.heap.size wo w') (by kernel_rfl) (Below.refl _ _).drew (fun hHeld => ?_)
          (refine takeH (i := 0) (v := .slice (some ⟨b, o, none⟩) l.length c) rfl rfl (by kernel_rfl) (by kernel_rfl) (by kernel_rfl) (fun _ _ _ h => h) (by rfl) (fun wz hSw => by go_simp) hHeld ?_; simp only [Act.put, List.setIfInBounds_toArray, List.set_cons_zero, List.set_cons_succ])
          (refine takeH (i := 1) (v := .int .i64 k) rfl rfl (by kernel_rfl) (by kernel_rfl) (by kernel_rfl) (fun _ _ _ h => h) (by rfl) (fun wz hSw => by go_simp) hHeld ?_; simp only [Act.put, List.setIfInBounds_toArray, List.set_cons_zero, List.set_cons_succ])
          (refine takeH (i := 2) (v := .pointer (some ⟨b, o + k, none⟩)) rfl rfl (by kernel_rfl) (by kernel_rfl) (by kernel_rfl) (fun _ _ _ h => h) (by rfl) (fun wz hSw => by go_simp) hHeld ?_; simp only [Act.put, List.setIfInBounds_toArray, List.set_cons_zero, List.set_cons_succ])
          (refine takeH (i := 3) (v := sv x) rfl rfl (by kernel_rfl) (by kernel_rfl) (by kernel_rfl) (fun _ _ _ h => h) (by rfl) (fun wz hSw => by have hcx := D1.out _ hSw; go_simp) hHeld ?_; simp only [Act.put, List.setIfInBounds_toArray, List.set_cons_zero, List.set_cons_succ])
          (refine takeH (i := 4) (v := .slice (some ⟨b2, o2, none⟩) m.length c2) rfl rfl (by kernel_rfl) (by kernel_rfl) (by kernel_rfl) (fun _ _ _ h => h) (by rfl) (fun wz hSw => by go_simp) hHeld ?_; simp only [Act.put, List.setIfInBounds_toArray, List.set_cons_zero, List.set_cons_succ])
          (refine takeH (i := 5) (v := .int .i64 k) rfl rfl (by kernel_rfl) (by kernel_rfl) (by kernel_rfl) (fun _ _ _ h => h) (by rfl) (fun wz hSw => by go_simp) hHeld ?_; simp only [Act.put, List.setIfInBounds_toArray, List.set_cons_zero, List.set_cons_succ])
          (refine takeH (i := 6) (v := .pointer (some ⟨b2, o2 + k, none⟩)) rfl rfl (by kernel_rfl) (by kernel_rfl) (by kernel_rfl) (fun _ _ _ h => h) (by rfl) (fun wz hSw => by go_simp) hHeld ?_; simp only [Act.put, List.setIfInBounds_toArray, List.set_cons_zero, List.set_cons_succ])
          (refine takeH (i := 7) (v := sv y) rfl rfl (by kernel_rfl) (by kernel_rfl) (by kernel_rfl) (fun _ _ _ h => h) (by rfl) (fun wz hSw => by have hcx := D2.out _ hSw; go_simp) hHeld ?_; simp only [Act.put, List.setIfInBounds_toArray, List.set_cons_zero, List.set_cons_succ])
          (refine oneH (i := 8) rfl (by kernel_rfl) (fun K hK => ?_); go_simp; refine hK.out _ _ (hHeld) (fun hHeld => ?_); clear hK K)
          refine wpAnyH_done (by kernel_rfl) ?_ _
          have KW := hide (GW.out.trans (hHeld.mono GW.out.size))
          clear hHeld hx
        · go_wp2
          go_ret
          exact ⟨ret_eq (by rw [HD.out (by simpa using HX.out)]; rfl), KW.out⟩
        · go_wp2_with fail
          exact ⟨⟨k + 1, by go_num, by omega, HT.out (by simpa using HX.out), KW.out⟩, by simp [intOf]; omega⟩
      · obtain rfl : k = l.length := by omega
        have e : l = m := by
          have := GE.out
          rw [List.take_length] at this
          rw [this]
          exact List.take_of_length_le (by rw [← HLen.out]; exact Nat.le_refl _)
        have HE := hide e
        clear e
        go_wp2
        go_ret
        exact ⟨ret_eq (by rw [decide_eq_true HE.out]; rfl), GW.out⟩
  · have hne : ((l.length : Int) != (m.length : Int)) = true := by simp; omega
    have HD : Hid (decide (l = m) = false) := hide (decide_eq_false fun e => hlen (by rw [e]))
    clear hlen
    go_enter Try.func61, Try.ntmps61
    go_wp2
    go_ret
    exact ⟨ret_eq (by rw [HD.out]; rfl), Below.refl _ _⟩
end Go.Proofs.Ytpnjkebjdclkfaa

/- Slices of numbers: where one stands; unlike each other. Conditions: none. -/
namespace Go.Proofs.Ytpnjkebjdclkfaa
open Go.RowKit

set_option maxHeartbeats 1000000 in
theorem uIndex_calls (l : List Nat) (x : Nat) (A : Option Addr) (c : Nat) (w : World) (hr : RF w (· < w.heap.size) 1 A l.length (l.map uv)) (hn : l.length ≤ 140737488351232) :
    Calls Try.prog 78 #[.slice A l.length c, uv x] w (fun e w' => IdxP (fun i => decide (l[i]? = some x)) l.length e ∧ w = w') := by
  have HR := hide hr
  clear hr
  go_enter Try.func78, Try.ntmps78
  go_wp2_with fail
  go_loop [8] (fun i => ∃ (k : Nat), i = .int .i64 k ∧ k ≤ l.length ∧ (∀ r, r < k → l[r]? ≠ some x)) (fun i => l.length - (intOf i).toNat)
  case atStart => exact ⟨0, rfl, Nat.zero_le _, fun r hr => by omega⟩
  case round =>
    obtain ⟨k, rfl, hk, hno⟩ := hrel
    have GN := hide hno
    clear hno
    by_cases hlt : k < l.length
    · obtain ⟨b, o, rfl, hb, hc⟩ := HR.out.at_ hlt
      have hg : l[k]? = some l[k] := List.getElem?_eq_getElem hlt
      generalize l[k] = y at *
      have HG := hide hg
      clear hg
      by_cases hx : x = y
      · subst hx
        have hxx : ((x : Int) == (x : Int)) = true := by simp
        go_wp2
        go_ret
        exact ⟨.inl ⟨k, hlt, rfl, by simp [HG.out], fun r hr => by simpa using GN.out r hr⟩, rfl⟩
      · have hxx : ((x : Int) == (y : Int)) = false := by simp; omega
        have HX := hide hx
        clear hx
        go_wp2_with fail
        exact ⟨⟨k + 1, by go_num, by omega, fun r hr => by
          by_cases e : r = k
          · rw [e, HG.out]; intro h; exact HX.out (Option.some.inj h).symm
          · exact GN.out r (by omega)⟩, by simp [intOf]; omega⟩
    · obtain rfl : k = l.length := by omega
      go_wp2
      go_ret
      exact ⟨.inr ⟨rfl, fun r hr => by simpa using GN.out r hr⟩, rfl⟩
set_option maxHeartbeats 400000 in
theorem uContains_calls (l : List Nat) (x : Nat) (A : Option Addr) (c : Nat) (w : World) (hr : RF w (· < w.heap.size) 1 A l.length (l.map uv)) (hn : l.length ≤ 140737488351232) :
    Calls Try.prog 149 #[.slice A l.length c, uv x] w (fun e w' => e = .returned (.bool (decide (x ∈ l))) ∧ w = w') := by
  have HI := hide (uIndex_calls l x A c w hr hn)
  clear hr
  go_enter Try.func149, Try.ntmps149
  go_wp2_with fail
  refine HI.out.mono ?_
  rintro e w1 ⟨hi, rfl⟩
  rcases hi with ⟨k, hk, rfl, hp, hno⟩ | ⟨rfl, hno⟩
  · have HX : Hid (decide (x ∈ l) = true) := hide (decide_eq_true (List.mem_of_getElem? (by simpa using hp)))
    clear hp hno
    go_wp2
    go_ret
    exact ⟨ret_eq (by rw [HX.out]; rfl), rfl⟩
  · have HX : Hid (decide (x ∈ l) = false) := hide (decide_eq_false fun hm => by
      obtain ⟨i, hi, e⟩ := List.getElem_of_mem hm
      have := hno i hi
      simp only [List.getElem?_eq_getElem hi, e] at this
      simp at this)
    clear hno
    go_wp2
    go_ret
    exact ⟨ret_eq (by rw [HX.out]; rfl), rfl⟩

/-- Neither 0 nor like one ahead of it; at most twelve. -/
def idOk (l : List Nat) (i : Nat) : Bool := !decide (l.getD i 0 = 0) && !decide (l.getD i 0 ∈ l.take i)
def idsB (l : List Nat) : Bool := ((List.range l.length).all (idOk l)) && decide (l.length ≤ 12)
set_option maxHeartbeats 1000000 in
theorem ids_calls (l : List Nat) (A : Option Addr) (c : Nat) (w : World) (hr : RF w (· < w.heap.size) 1 A l.length (l.map uv)) (hn : l.length ≤ 140737488351232) (hc : l.length ≤ c) :
    Calls Try.prog 138 #[.slice A l.length c] w (fun e w' => e = .returned (.bool (idsB l)) ∧ w = w') := by
  have HR := hide hr
  clear hr
  go_enter Try.func138, Try.ntmps138
  go_wp2_with fail
  go_loop [7] (fun i => ∃ (k : Nat), i = .int .i64 k ∧ k ≤ l.length ∧ (∀ r, r < k → idOk l r = true)) (fun i => l.length - (intOf i).toNat)
  case atStart => exact ⟨0, rfl, Nat.zero_le _, fun r hr => by omega⟩
  case round =>
    obtain ⟨k, rfl, hk, hno⟩ := hrel
    have GN := hide hno
    clear hno
    by_cases hlt : k < l.length
    · obtain ⟨b, o, rfl, hb, hcell⟩ := HR.out.at_ hlt
      have hg : l.getD k 0 = l[k] := by simp [List.getD, hlt]
      have HOK : Hid (idOk l k = (!decide (l[k] = 0) && !decide (l[k] ∈ l.take k))) := hide (by unfold idOk; rw [hg])
      have HRT : Hid (RF w (· < w.heap.size) 1 (some ⟨b, o, none⟩) (l.take k).length ((l.take k).map uv)) := hide (by
        have := Reads.take (k := k) HR.out (by omega)
        rw [Nat.mul_one, ← List.map_take] at this
        rw [List.length_take, Nat.min_eq_left (by omega)]
        exact this)
      have hlen : (l.take k).length = k := by simp; omega
      have HC := hide (fun x => uContains_calls (l.take k) x (some ⟨b, o, none⟩) c w HRT.out (by omega))
      rw [hlen] at HC
      clear hg hlen
      have HFL : Hid (idOk l k = false → idsB l = false) := hide fun h => by
        unfold idsB
        rw [show (List.range l.length).all (idOk l) = false from List.all_eq_false.2 ⟨k, List.mem_range.2 hlt, by rw [h]; simp⟩, Bool.false_and]
      generalize l[k] = y at *
      by_cases h0 : y = 0
      · have h00 : ((y : Int) == 0) = true := by simp [h0]
        have HX : Hid (idsB l = false) := hide (HFL.out (by rw [HOK.out, decide_eq_true h0]; rfl))
        clear h0
        go_wp2
        go_ret
        exact ⟨ret_eq (by rw [HX.out]; rfl), rfl⟩
      · have h00 : ((y : Int) == 0) = false := by simpa using h0
        rw [decide_eq_false h0, Bool.not_false, Bool.true_and] at HOK
        clear h0
        cases hx : decide (y ∈ l.take k)
        · rw [hx] at HOK
          have HX := hide hx
          clear hx
          go_wp2_with fail
          refine (HC.out y).mono ?_
          rintro e w1 ⟨rfl, rfl⟩
          rw [HX.out]
          go_wp2_with fail
          exact ⟨⟨k + 1, by go_num, by omega, fun r hr => by
            by_cases e : r = k
            · rw [e, HOK.out]; rfl
            · exact GN.out r (by omega)⟩, by simp [intOf]; omega⟩
        · rw [hx] at HOK
          have HX := hide hx
          clear hx
          go_wp2_with fail
          refine (HC.out y).mono ?_
          rintro e w1 ⟨rfl, rfl⟩
          rw [HX.out]
          go_wp2
          go_ret
          exact ⟨ret_eq (by rw [HFL.out (by rw [HOK.out]; rfl)]; rfl), rfl⟩
    · obtain rfl : k = l.length := by omega
      have HE : Hid (idsB l = decide (l.length ≤ 12)) := hide (by
        unfold idsB
        rw [show (List.range l.length).all (idOk l) = true from List.all_eq_true.2 fun i hi => GN.out i (List.mem_range.1 hi), Bool.true_and])
      go_wp2
      go_ret
      exact ⟨ret_eq (by rw [HE.out]; first | rfl | (simp; done) | (simp; omega) | (simp; rw [Bool.eq_iff_iff]; simp; omega) | (rw [Bool.eq_iff_iff]; simp; omega) | (simp; rw [Bool.eq_iff_iff]; simp)), rfl⟩
end Go.Proofs.Ytpnjkebjdclkfaa

/- Names: value.Name, and the document's own. Conditions: none. -/
namespace Go.Proofs.Ytpnjkebjdclkfaa
open Go.RowKit

def nameByte (c : Nat) : Bool := decide ((97 ≤ c ∧ c ≤ 122) ∨ (48 ≤ c ∧ c ≤ 57) ∨ c = 95)
def nameB (s : Str) : Bool := (s.all fun c => nameByte c.toNat) && decide (1 ≤ s.length ∧ s.length ≤ 12)

theorem nameByte_true {c : Nat} (h : (97 ≤ c ∧ c ≤ 122) ∨ (48 ≤ c ∧ c ≤ 57) ∨ c = 95) : nameByte c = true := decide_eq_true h
theorem nameByte_false {c : Nat} (h : ¬ ((97 ≤ c ∧ c ≤ 122) ∨ (48 ≤ c ∧ c ≤ 57) ∨ c = 95)) : nameByte c = false := decide_eq_false h

set_option maxHeartbeats 1000000 in
theorem nameOther_calls (R : Nat) (w : World) (hR : R ≤ 1114111) : Calls Try.prog 148 #[.int .i32 (R : Int)] w (fun e w' => e = .returned (.bool (!nameByte R)) ∧ w = w') := by
  have key : R < 48 ∨ (48 ≤ R ∧ R ≤ 57) ∨ (57 < R ∧ R < 95) ∨ (95 ≤ R ∧ R ≤ 95) ∨ (96 ≤ R ∧ R ≤ 96) ∨ (97 ≤ R ∧ R ≤ 122) ∨ 122 < R := by omega
  rcases key with h | h | h | h | h | h | h
  all_goals
    first
      | (have hT : Hid (nameByte _ = true) := hide (nameByte_true (c := R) (by omega)))
      | (have hT : Hid (nameByte _ = false) := hide (nameByte_false (c := R) (by omega)))
    first | (have hb : ((R : Int) == 95) = false := by simp; omega) | (have hb : ((R : Int) == 95) = true := by simp; omega)
    go_enter Try.func148, Try.ntmps148
    go_wp2
    go_ret
    exact ⟨ret_eq (by rw [hT.out]; first | rfl | (simp; omega)), rfl⟩

theorem get_str (s : Str) (i : Nat) (h : i < s.length) : (strB s).get! i = s[i] := by
  simp [strB, ByteArray.get!, h]
theorem decode_name (s : Str) (i : Nat) (h : i < s.length) : (nameByte (Utf8.decode (strB s) i).1 = nameByte s[i].toNat) ∧ (nameByte s[i].toNat = true → (Utf8.decode (strB s) i).2 = 1) := by
  have hg : (strB s).get! (i + 0) = s[i] := get_str s i h
  unfold Utf8.decode
  simp only [hg]
  by_cases h0 : s[i].toNat < 128
  · rw [if_pos h0]; exact ⟨rfl, fun _ => rfl⟩
  · rw [if_neg h0]
    have hn : nameByte s[i].toNat = false := nameByte_false (by omega)
    refine ⟨?_, fun h => by rw [hn] at h; cases h⟩
    rw [hn]
    split
    · split
      · exact nameByte_false (by omega)
      · exact nameByte_false (by unfold Utf8.runeError; omega)
    · split
      · split
        · rename_i hc
          simp only [Bool.and_eq_true, decide_eq_true_eq] at hc
          exact nameByte_false (by omega)
        · exact nameByte_false (by unfold Utf8.runeError; omega)
      · split
        · split
          · rename_i hc
            simp only [Bool.and_eq_true, decide_eq_true_eq] at hc
            exact nameByte_false (by omega)
          · exact nameByte_false (by unfold Utf8.runeError; omega)
        · exact nameByte_false (by unfold Utf8.runeError; omega)

/-- The first one that is no sign of a name: below 0 where there is none. -/
def OtherPost (s : Str) (w : World) (e : Ending) (w' : World) : Prop := (∃ z : Int, e = .returned (.int .i64 z) ∧ decide (z < 0) = s.all (fun c => nameByte c.toNat)) ∧ Below w.heap.size w w'
set_option maxHeartbeats 2000000 in
set_option maxRecDepth 20000 in
theorem nameIndex_calls (s : Str) (w : World) (hs : s.length ≤ maxLen) :
    Calls Try.prog 154 #[sv s, .func (.func 148) #[] #[], .bool true] w (OtherPost s w) := by
  unfold maxLen at hs
  have hKs : ∀ (x : Array Value) W, (callFunc 148 x).run Try.prog W = .ok (.enter 148 x) W := fun _ _ => by kernel_rfl
  go_enter Try.func154, Try.ntmps154
  go_wp2
  go_loopg [] s.length (fun g wx => ∃ pos : Nat, wx.heap[w.heap.size]? = some (.stringIter (strB s) pos) ∧ Below w.heap.size w wx ∧ s.length ≤ pos + g ∧ (∀ c ∈ s.take pos, nameByte c.toNat = true))
  case atStart => exact ⟨0, World.iter_heap w (strB s) 0, (Below.refl _ w).alloc (Nat.le_refl _) _, by omega, by simp⟩
  case round =>
    obtain ⟨pos, hit, hbw, hfu, hok⟩ := hrel
    have GB := hide hbw
    have GN := hide hok
    have hsz : w.heap.size < wr.heap.size := (Array.getElem?_eq_some_iff.1 hit).1
    clear hbw hok
    by_cases hp0 : pos < s.length
    · have hp : pos < (strB s).size := by rw [strB_size]; exact hp0
      obtain ⟨g, rfl⟩ : ∃ g, gk = g + 1 := ⟨gk - 1, by omega⟩
      have hnx : ∀ ty, (Instr.next (.pointer (some ⟨w.heap.size, 0, none⟩)) true ty).run Try.prog wr = _ := fun ty => Lib.run_next_any_at wr w.heap.size (strB s) pos ty hit hp
      have hr1 := Lib.rune_le (strB s) pos
      have hwd := Lib.width_pos (strB s) pos
      have hdn := decode_name s pos hp0
      obtain ⟨R, hR⟩ : ∃ R, (Utf8.decode (strB s) pos).1 = R := ⟨_, rfl⟩
      obtain ⟨K, hK⟩ : ∃ K, (Utf8.decode (strB s) pos).2 = K := ⟨_, rfl⟩
      rw [hR, hK] at hnx
      rw [hR, hK] at hdn
      rw [hR] at hr1
      rw [hK] at hwd
      have hit2 := Lib.iterAt_heap wr w.heap.size (strB s) pos (pos + K) hit
      have hbw2 := Lib.below_iterAt GB.out (k := w.heap.size) (Nat.le_refl _) (strB s) (pos + K)
      obtain ⟨W, hWd⟩ : ∃ W, wr.iterAt w.heap.size (strB s) (pos + K) = W := ⟨_, rfl⟩
      rw [hWd] at hnx hit2 hbw2
      have hWs : w.heap.size < W.heap.size := (Array.getElem?_eq_some_iff.1 hit2).1
      have cS := hide (nameOther_calls R W hr1)
      have HDN := hide hdn
      have HI2 := hide (And.intro hit2 hbw2)
      clear hdn hit hit2 hbw2 hR hK hWd
      cases hx : nameByte R with
      | true =>
        rw [hx] at cS
        have HX := hide hx
        clear hx
        go_wp2_with (go_at_call 148; refine cS.out.mono ?_; rintro e w' ⟨rfl, rfl⟩)
        go_roundg g
        case measure => omega
        case rel =>
          have h1 : nameByte s[pos].toNat = true := HDN.out.1.symm.trans HX.out
          have hK1 := HDN.out.2 h1
          subst hK1
          refine ⟨pos + 1, HI2.out.1, HI2.out.2, by omega, fun c hc => ?_⟩
          rw [List.take_succ_eq_append_getElem hp0] at hc
          rcases List.mem_append.1 hc with h | h
          · exact GN.out c h
          · rw [List.mem_singleton.1 h]; exact h1
      | false =>
        rw [hx] at cS
        have HX := hide hx
        clear hx
        go_wp2_with (go_at_call 148; refine cS.out.mono ?_; rintro e w' ⟨rfl, rfl⟩)
        go_ret
        refine ⟨⟨(pos : Int), rfl, ?_⟩, HI2.out.2⟩
        have h1 : nameByte s[pos].toNat = false := HDN.out.1.symm.trans HX.out
        rw [show (s.all fun c => nameByte c.toNat) = false from List.all_eq_false.2 ⟨s[pos], List.getElem_mem _, by rw [h1]; simp⟩]
        simp
    · have hp : ¬ pos < (strB s).size := by rw [strB_size]; exact hp0
      have hnx : ∀ ty, (Instr.next (.pointer (some ⟨w.heap.size, 0, none⟩)) true ty).run Try.prog wr = _ := fun ty => Lib.run_next_end_at wr w.heap.size (strB s) pos ty hit hp
      clear hit
      go_wp2
      go_ret
      refine ⟨⟨-1, rfl, ?_⟩, GB.out⟩
      rw [show (s.all fun c => nameByte c.toNat) = true from List.all_eq_true.2 fun c hc => GN.out c (by rw [List.take_of_length_le (by omega)]; exact hc)]
      rfl

set_option maxHeartbeats 400000 in
theorem nameIndexS_calls (s : Str) (w : World) (hs : s.length ≤ maxLen) :
    Calls Try.prog 147 #[sv s, .func (.func 148) #[] #[]] w (OtherPost s w) := by
  have HI := hide (nameIndex_calls s w hs)
  go_enter Try.func147, Try.ntmps147
  go_wp2_with fail
  refine HI.out.mono ?_
  rintro e w1 ⟨⟨z, rfl, hz⟩, hb⟩
  have HZ := hide hz
  have HB := hide hb
  clear hz hb
  go_wp2
  go_ret
  exact ⟨⟨z, rfl, HZ.out⟩, HB.out⟩

set_option maxHeartbeats 1000000 in
theorem name_calls (s : Str) (w : World) (hs : s.length ≤ maxLen) : Calls Try.prog 136 #[sv s] w (Gives (.bool (nameB s)) w) := by
  have HI := hide (nameIndexS_calls s w hs)
  go_enter Try.func136, Try.ntmps136
  go_wp2_with fail
  refine HI.out.mono ?_
  rintro e w1 ⟨⟨z, rfl, hz⟩, hb⟩
  have HB := hide hb
  have HN : Hid (nameB s = (decide (z < 0) && decide (1 ≤ s.length ∧ s.length ≤ 12))) := hide (by rw [hz]; rfl)
  clear hb hz
  unfold maxLen at hs
  by_cases h1 : s.length = 0
  · obtain rfl : s = [] := List.eq_nil_of_length_eq_zero h1
    go_wp2
    go_ret
    exact ⟨ret_eq (by rw [HN.out]; simp), HB.out⟩
  · have hne : ¬ s = [] := fun e => h1 (by rw [e]; rfl)
    have hne2 : s.isEmpty = false := by cases s; exact absurd rfl hne; rfl
    by_cases h2 : s.length ≤ 12
    · have hd : decide (1 ≤ s.length ∧ s.length ≤ 12) = true := decide_eq_true ⟨by omega, h2⟩
      rw [hd, Bool.and_true] at HN
      clear hd
      go_wp2
      go_ret
      exact ⟨ret_eq (by rw [HN.out]; rfl), HB.out⟩
    · have hd : decide (1 ≤ s.length ∧ s.length ≤ 12) = false := decide_eq_false fun h => h2 h.2
      rw [hd, Bool.and_false] at HN
      clear hd
      go_wp2
      go_ret
      exact ⟨ret_eq (by rw [HN.out]; rfl), HB.out⟩
end Go.Proofs.Ytpnjkebjdclkfaa

/- Names: the document's own; lists of names. Conditions: none. -/
namespace Go.Proofs.Ytpnjkebjdclkfaa
open Go.RowKit

set_option maxHeartbeats 1000000 in
theorem refName_calls (s : Str) (w : World) (hs : s.length ≤ maxLen) : Calls Try.prog 87 #[sv s] w (fun e w' => e = .returned (.bool (nameB s)) ∧ w = w') := by
  unfold maxLen at hs
  go_enter Try.func87, Try.ntmps87
  go_wp2_with fail
  go_loop [3] (fun i => ∃ (k : Nat), i = .int .i64 k ∧ k ≤ s.length ∧ ∀ c ∈ s.take k, nameByte c.toNat = true) (fun i => s.length - (intOf i).toNat)
  case atStart => exact ⟨0, rfl, Nat.zero_le _, by simp⟩
  case round =>
    obtain ⟨k, rfl, hk, hok⟩ := hrel
    have GN := hide hok
    clear hok
    by_cases hlt : k < s.length
    · have hx := UInt8.toNat_lt s[k]
      have HT : Hid (nameByte s[k].toNat = true → ∀ c ∈ s.take (k + 1), nameByte c.toNat = true) := hide fun h c hc => by
        rw [List.take_succ_eq_append_getElem hlt] at hc
        rcases List.mem_append.1 hc with h1 | h1
        · exact GN.out c h1
        · rw [List.mem_singleton.1 h1]; exact h
      have HN : Hid (nameByte s[k].toNat = false → nameB s = false) := hide fun h => by
        unfold nameB
        rw [show (s.all fun c => nameByte c.toNat) = false from List.all_eq_false.2 ⟨s[k], List.getElem_mem _, by rw [h]; simp⟩]
        rfl
      have key : s[k].toNat < 48 ∨ (48 ≤ s[k].toNat ∧ s[k].toNat ≤ 57) ∨ (57 < s[k].toNat ∧ s[k].toNat < 95) ∨ (95 ≤ s[k].toNat ∧ s[k].toNat ≤ 95) ∨ (96 ≤ s[k].toNat ∧ s[k].toNat ≤ 96) ∨ (97 ≤ s[k].toNat ∧ s[k].toNat ≤ 122) ∨ 122 < s[k].toNat := by omega
      clear GN
      rcases key with h | h | h | h | h | h | h
      all_goals
        first | (have hb : ((s[k].toNat : Int) == 95) = false := by simp; omega) | (have hb : ((s[k].toNat : Int) == 95) = true := by simp; omega)
        first
          | (have hT : Hid (nameByte s[k].toNat = true) := hide (nameByte_true (by omega)))
          | (have hT : Hid (nameByte s[k].toNat = false) := hide (nameByte_false (by omega)))
        first
          | (have d1 : decide ((97 : Int) ≤ (s[k].toNat : Int)) = true := decide_eq_true (by omega); have d2 : decide ((s[k].toNat : Int) ≤ 122) = true := decide_eq_true (by omega))
          | (have d1 : decide ((97 : Int) ≤ (s[k].toNat : Int)) = true := decide_eq_true (by omega); have d2 : decide ((s[k].toNat : Int) ≤ 122) = false := decide_eq_false (by omega))
          | (have d1 : decide ((97 : Int) ≤ (s[k].toNat : Int)) = false := decide_eq_false (by omega))
        first
          | (have d3 : decide ((48 : Int) ≤ (s[k].toNat : Int)) = true := decide_eq_true (by omega); have d4 : decide ((s[k].toNat : Int) ≤ 57) = true := decide_eq_true (by omega))
          | (have d3 : decide ((48 : Int) ≤ (s[k].toNat : Int)) = true := decide_eq_true (by omega); have d4 : decide ((s[k].toNat : Int) ≤ 57) = false := decide_eq_false (by omega))
          | (have d3 : decide ((48 : Int) ≤ (s[k].toNat : Int)) = false := decide_eq_false (by omega))
        go_wp2_with fail
        first
          | exact ⟨⟨k + 1, by go_num, by omega, HT.out hT.out⟩, by simp [intOf]; omega⟩
          | (go_ret; exact ⟨ret_eq (by rw [HN.out hT.out]; rfl), rfl⟩)
    · obtain rfl : k = s.length := by omega
      have HA : Hid ((s.all fun c => nameByte c.toNat) = true) := hide (List.all_eq_true.2 fun c hc => GN.out c (by rw [List.take_length]; exact hc))
      have HN : Hid (nameB s = decide (1 ≤ s.length ∧ s.length ≤ 12)) := hide (by unfold nameB; rw [HA.out]; rfl)
      by_cases h1 : 1 ≤ s.length
      · by_cases h2 : s.length ≤ 12
        · have hd : Hid (decide (1 ≤ s.length ∧ s.length ≤ 12) = true) := hide (decide_eq_true ⟨h1, h2⟩)
          go_wp2
          go_ret
          exact ⟨ret_eq (by rw [HN.out, hd.out]; first | rfl | (simp; omega)), rfl⟩
        · have hd : Hid (decide (1 ≤ s.length ∧ s.length ≤ 12) = false) := hide (decide_eq_false fun h => h2 h.2)
          go_wp2
          go_ret
          exact ⟨ret_eq (by rw [HN.out, hd.out]; first | rfl | (simp; omega)), rfl⟩
      · have hd : Hid (decide (1 ≤ s.length ∧ s.length ≤ 12) = false) := hide (decide_eq_false fun h => h1 h.1)
        go_wp2
        go_ret
        exact ⟨ret_eq (by rw [HN.out, hd.out]; first | rfl | (simp; omega)), rfl⟩

theorem RF.below' {w w' : World} {size n : Nat} {A : Option Addr} {xs : List Value} {B : Nat} (h : RF w (· < B) size A n xs) (hb : Below B w w') : RF w' (· < B) size A n xs := h.keep fun _ hq => hb.cell hq
theorem RF.more {w w' : World} {size n : Nat} {A : Option Addr} {xs : List Value} (h : RF w (· < w.heap.size) size A n xs) (hb : Below w.heap.size w w') : RF w' (· < w'.heap.size) size A n xs := (h.below' hb).mono fun _ hk => Nat.lt_of_lt_of_le hk hb.size

set_option maxHeartbeats 400000 in
theorem namesNot_calls (s : Str) (w : World) (hs : s.length ≤ maxLen) : Calls Try.prog 143 #[sv s] w (Gives (.bool (!nameB s)) w) := by
  have HI := hide (name_calls s w hs)
  go_enter Try.func143, Try.ntmps143
  go_wp2_with fail
  refine HI.out.mono ?_
  rintro e w1 ⟨rfl, hb⟩
  have HB := hide hb
  clear hb
  go_wp2
  go_ret
  exact ⟨rfl, HB.out⟩
def namesB (l : List Str) : Bool := decide (l.length ≤ 8) && l.all nameB
set_option maxHeartbeats 1000000 in
theorem names_calls (l : List Str) (A : Option Addr) (c : Nat) (w : World) (hr : RF w (· < w.heap.size) 1 A l.length (l.map sv)) (hz : ∀ s ∈ l, s.length ≤ maxLen) (hn : l.length ≤ 140737488351232) :
    Calls Try.prog 124 #[.slice A l.length c] w (Gives (.bool (namesB l)) w) := by
  have hK : ∀ (x : Array Value) W, (callFunc 143 x).run Try.prog W = .ok (.enter 143 x) W := fun _ _ => by kernel_rfl
  have HC := hide (strF_contains 143 hK l.length A c (fun i => sv (l.getD i [])) (fun i => !nameB (l.getD i [])) w hn
    (fun h0 => by
      obtain ⟨b, o, e, hb, hc⟩ := hr.2 h0
      exact ⟨b, o, e, hb, fun i hi => hc i _ (by simp [List.getD, hi])⟩)
    (fun i hi W hW => namesNot_calls _ W (by
      have : l.getD i [] ∈ l := by simp [List.getD, hi]
      exact hz _ this)))
  have HP : Hid ((List.range l.length).any (fun i => !nameB (l.getD i [])) = !l.all nameB) := hide (by
    rw [Bool.eq_iff_iff, List.any_eq_true]
    simp only [Bool.not_eq_true', List.all_eq_false, List.mem_range]
    constructor
    · rintro ⟨i, hi, h⟩
      exact ⟨l.getD i [], by simp [List.getD, hi], by rw [h]; simp⟩
    · rintro ⟨x, hx, h⟩
      obtain ⟨i, hi, rfl⟩ := List.getElem_of_mem hx
      exact ⟨i, hi, by simpa [List.getD, hi] using h⟩)
  rw [HP.out] at HC
  have HN : Hid (namesB l = (decide (l.length ≤ 8) && l.all nameB)) := hide rfl
  clear hr hz hK HP
  generalize l.all nameB = x at *
  by_cases h8 : l.length ≤ 8
  · have hd : decide (l.length ≤ 8) = true := decide_eq_true h8
    rw [hd, Bool.true_and] at HN
    clear hd
    go_enter Try.func124, Try.ntmps124
    go_wp2_with fail
    refine HC.out.mono ?_
    rintro e w1 ⟨rfl, hb⟩
    have HB := hide hb
    clear hb
    go_wp2
    go_ret
    exact ⟨ret_eq (by rw [HN.out]; simp), HB.out⟩
  · have hd : decide (l.length ≤ 8) = false := decide_eq_false h8
    rw [hd, Bool.false_and] at HN
    clear hd
    go_enter Try.func124, Try.ntmps124
    go_wp2
    go_ret
    exact ⟨ret_eq (by rw [HN.out]; rfl), Below.refl _ _⟩
def risingB (l : List Str) : Bool := sortedB l && unlikeB l
set_option maxHeartbeats 400000 in
theorem rising_calls (l : List Str) (A : Option Addr) (c : Nat) (w : World) (hr : RF w (· < w.heap.size) 1 A l.length (l.map sv)) (hn : l.length ≤ 140737488351232) (hc : l.length ≤ c) :
    Calls Try.prog 126 #[.slice A l.length c] w (Gives (.bool (risingB l)) w) := by
  have HS := hide (isSorted_calls l A c w hr hn)
  have HR := hide hr
  have HN : Hid (risingB l = (sortedB l && unlikeB l)) := hide rfl
  clear hr
  cases hx : sortedB l
  all_goals
    rw [hx] at HS HN
    clear hx
    go_enter Try.func126, Try.ntmps126
    go_wp2_with fail
    refine HS.out.mono ?_
    rintro e w1 ⟨rfl, hb⟩
    have HB := hide hb
    clear hb
    go_wp2_with fail
  · go_ret
    exact ⟨ret_eq (by rw [HN.out]; rfl), HB.out⟩
  · refine (unlike_calls l A c _ (HR.out.more HB.out) hn hc).mono ?_
    rintro e w2 ⟨rfl, rfl⟩
    go_wp2
    go_ret
    exact ⟨ret_eq (by rw [HN.out]; rfl), HB.out⟩
end Go.Proofs.Ytpnjkebjdclkfaa

/- Names that rise. Conditions: none. -/
namespace Go.Proofs.Ytpnjkebjdclkfaa
open Go.RowKit

/-- A right name, ahead of which the one before it stands. -/
def riseOk (l : List Str) (i : Nat) : Bool := nameB (l.getD i []) && (decide (i = 0) || sLt (l.getD (i - 1) []) (l.getD i []))
def riseV (l : List Str) : Bool := ((List.range l.length).all (riseOk l)) && decide (l.length ≤ 8)
set_option maxHeartbeats 1000000 in
theorem riseV_calls (l : List Str) (A : Option Addr) (c : Nat) (w : World) (hr : RF w (· < w.heap.size) 1 A l.length (l.map sv)) (hz : ∀ s ∈ l, s.length ≤ maxLen) (hn : l.length ≤ 140737488351232) :
    Calls Try.prog 137 #[.slice A l.length c] w (Gives (.bool (riseV l)) w) := by
  have HR := hide hr
  have HZ := hide hz
  clear hr hz
  go_enter Try.func137, Try.ntmps137
  go_wp2_with fail
  go_loopw [7] (fun i wr => ∃ (k : Nat), i = .int .i64 k ∧ k ≤ l.length ∧ (∀ r, r < k → riseOk l r = true) ∧ Below w.heap.size w wr) (fun i _ => l.length - (intOf i).toNat)
  case atStart => exact ⟨0, rfl, Nat.zero_le _, fun r hr => by omega, Below.refl _ _⟩
  case round =>
    obtain ⟨k, rfl, hk, hno, hw⟩ := hrel
    obtain ⟨wo, rfl⟩ : ∃ wo : World, wo = wr := ⟨_, rfl⟩
    have GN := hide hno
    have GW := hide hw
    clear hno hw
    by_cases hlt : k < l.length
    · obtain ⟨b, o, rfl, hb, hcell⟩ := HR.out.at_ hlt
      have hzy := HZ.out _ (List.getElem_mem hlt)
      obtain ⟨y, hy⟩ : ∃ y, l[k] = y := ⟨_, rfl⟩
      have hg : l.getD k [] = y := by rw [← hy]; simp [List.getD, hlt]
      rw [hy] at hzy hcell
      have c1 : wo.cell? ⟨b, o + k, none⟩ = some (sv y) := (GW.out.cell (p := ⟨b, o + k, none⟩) hb).trans hcell
      have HOK : Hid (riseOk l k = (nameB y && (decide (k = 0) || sLt (l.getD (k - 1) []) y))) := hide (by unfold riseOk; rw [hg])
      have HC := hide (name_calls y wo hzy)
      have HFL : Hid (riseOk l k = false → riseV l = false) := hide fun h => by
        unfold riseV
        rw [show (List.range l.length).all (riseOk l) = false from List.all_eq_false.2 ⟨k, List.mem_range.2 hlt, by rw [h]; simp⟩, Bool.false_and]
      clear hg hcell hy hzy
      cases hx : nameB y
      · rw [hx] at HC HOK
        clear hx
        go_wp2_with fail
        refine HC.out.mono ?_
        rintro e w1 ⟨rfl, hb1⟩
        have KW := hide (GW.out.trans (hb1.mono GW.out.size))
        clear hb1
        go_wp2
        go_ret
        exact ⟨ret_eq (by rw [HFL.out (by rw [HOK.out]; rfl)]; rfl), KW.out⟩
      · rw [hx, Bool.true_and] at HOK
        rw [hx] at HC
        clear hx
        by_cases h0 : k = 0
        · rw [decide_eq_true h0, Bool.true_or] at HOK
          have h00 : ¬ (0 : Int) < (k : Int) := by omega
          have HK0 := hide h0
          clear h0
          go_wp2_with fail
          refine HC.out.mono ?_
          rintro e w1 ⟨rfl, hb1⟩
          have KW := hide (GW.out.trans (hb1.mono GW.out.size))
          clear hb1
          go_wp2_with fail
          exact ⟨⟨k + 1, by go_num, by omega, fun r hr => by
            by_cases e : r = k
            · rw [e, HOK.out]
            · exact GN.out r (by omega), KW.out⟩, by simp [intOf]; omega⟩
        · rw [decide_eq_false h0, Bool.false_or] at HOK
          obtain ⟨j, rfl⟩ : ∃ j, k = j + 1 := ⟨k - 1, by omega⟩
          have hlj : j < l.length := by omega
          obtain ⟨b', o', he, hb', hcell'⟩ := HR.out.at_ hlj
          obtain ⟨z, hz⟩ : ∃ z, l[j] = z := ⟨_, rfl⟩
          have hgj : l.getD (j + 1 - 1) [] = z := by rw [← hz]; simp [List.getD, hlj]
          rw [hgj] at HOK
          rw [hz] at hcell'
          obtain ⟨rfl, rfl⟩ : b' = b ∧ o' = o := by simpa [eq_comm] using he
          have HP : Hid (∀ W, Below w.heap.size w W → W.cell? ⟨b', o' + j, none⟩ = some (sv z)) := hide fun W hW => (hW.cell (p := ⟨b', o' + j, none⟩) hb').trans hcell'
          have h00 : (0 : Int) < ((j + 1 : Nat) : Int) := by omega
          have hsub : (((j + 1 : Nat) : Int) - 1) = (j : Int) := by omega
          clear h0 hgj hcell' he hz
          cases hx : sLt z y
          · rw [hx] at HOK
            have hxx : (!Op.bytesLess z y) = true := by rw [show Op.bytesLess z y = false from hx]; rfl
            clear hx
            go_wp2_with fail
            refine HC.out.mono ?_
            rintro e w1 ⟨rfl, hb1⟩
            have KW := hide (GW.out.trans (hb1.mono GW.out.size))
            clear hb1
            have c2 := HP.out _ KW.out
            go_wp2
            go_ret
            exact ⟨ret_eq (by rw [HFL.out HOK.out]; rfl), KW.out⟩
          · rw [hx] at HOK
            have hxx : (!Op.bytesLess z y) = false := by rw [show Op.bytesLess z y = true from hx]; rfl
            clear hx
            go_wp2_with fail
            refine HC.out.mono ?_
            rintro e w1 ⟨rfl, hb1⟩
            have KW := hide (GW.out.trans (hb1.mono GW.out.size))
            clear hb1
            have c2 := HP.out _ KW.out
            go_wp2_with fail
            exact ⟨⟨j + 1 + 1, by go_num, by omega, fun r hr => by
              by_cases e : r = j + 1
              · rw [e, HOK.out]
              · exact GN.out r (by omega), KW.out⟩, by simp [intOf]; omega⟩
    · obtain rfl : k = l.length := by omega
      have HE : Hid (riseV l = decide (l.length ≤ 8)) := hide (by
        unfold riseV
        rw [show (List.range l.length).all (riseOk l) = true from List.all_eq_true.2 fun i hi => GN.out i (List.mem_range.1 hi), Bool.true_and])
      go_wp2
      go_ret
      exact ⟨ret_eq (by rw [HE.out]; first | rfl | (simp; done) | (simp; omega) | (simp; rw [Bool.eq_iff_iff]; simp; omega) | (rw [Bool.eq_iff_iff]; simp; omega) | (simp; rw [Bool.eq_iff_iff]; simp)), GW.out⟩
end Go.Proofs.Ytpnjkebjdclkfaa

/- Arrays of bytes as values: loads, stores, equality. Conditions: none. -/
namespace Go.Proofs.Ytpnjkebjdclkfaa
open Go.RowKit

/-- The cells of an array of bytes. -/
abbrev FB (f : List UInt8) : Array Value := (f.map bv).toArray

theorem mapM_some_of {α β : Type} (f : α → Option β) (g : α → β) : ∀ l : List α, (∀ a ∈ l, f a = some (g a)) → l.mapM f = some (l.map g)
  | [], _ => rfl
  | a :: l, h => by
    rw [List.mapM_cons, h a (by simp), mapM_some_of f g l fun x hx => h x (by simp [hx])]
    rfl
theorem flatten_single {α : Type} (l : List α) : (l.map fun a => [a]).flatten = l := by
  induction l with
  | nil => rfl
  | cons a l ih => simp [ih]
section
variable {P : Program}
theorem keyLits_bytes (d n : Nat) (t e : TypeId) (ht : P.underlying t = some (.array n e)) (he : P.underlying e = some (.int .u8)) (hc : P.cellsOf t = n) (hce : P.cellsOf e = 1) (f : List UInt8) (hf : f.length = n) :
    P.keyLits (d + 2) t (f.map bv) = some (f.map fun b => Lit.int .u8 b.toNat) := by
  have hone : ∀ i, i < n → P.keyLits (d + 1) e (((f.map bv).drop (i * P.cellsOf e)).take (P.cellsOf e)) = some [Lit.int .u8 ((f.getD i 0).toNat : Int)] := by
    intro i hi
    rw [hce, Nat.mul_one]
    have hi' : i < (f.map bv).length := by simp; omega
    rw [List.drop_eq_getElem_cons hi', List.take_succ_cons, List.take_zero, List.getElem_map]
    unfold Program.keyLits
    rw [he]
    have hlt := UInt8.toNat_lt f[i]
    have hg : f.getD i 0 = f[i] := by simp [List.getD, hf, hi]
    rw [hg]
    simp only [true_and]
    rw [if_pos]
    simp only [Lit.wf, Bool.and_eq_true, decide_eq_true_eq, show IntKind.u8.min = 0 from rfl, show IntKind.u8.max = 255 from rfl]
    omega
  unfold Program.keyLits
  rw [ht]
  simp only [List.length_map, hf, hc, if_true]
  rw [mapM_some_of _ (fun i => [Lit.int .u8 ((f.getD i 0).toNat : Int)]) (List.range n) fun i hi => hone i (List.mem_range.1 hi)]
  simp only [Option.map_some, Option.some.injEq]
  have : (List.range n).map (fun i => [Lit.int .u8 ((f.getD i 0).toNat : Int)]) = (f.map fun b => Lit.int .u8 b.toNat).map fun a => [a] := by
    apply List.ext_getElem
    · simp [hf]
    · intro i h1 h2
      simp at h1 h2
      simp [List.getD, h2]
  rw [this, flatten_single]
theorem lits_inj {f g : List UInt8} (h : (f.map fun b => Lit.int .u8 b.toNat) = g.map fun b => Lit.int .u8 b.toNat) : f = g := by
  induction f generalizing g with
  | nil => cases g with
    | nil => rfl
    | cons => simp at h
  | cons a f ih => cases g with
    | nil => simp at h
    | cons b g =>
      simp only [List.map_cons, List.cons.injEq, Lit.int.injEq, true_and] at h
      have h1 : a.toNat = b.toNat := by have := h.1; omega
      rw [UInt8.toNat_inj.1 h1, ih h.2]
/-- Whether two arrays of bytes are one. -/
theorem run_equal_bytes (w : World) (n : Nat) (t e : TypeId) (ht : P.underlying t = some (.array n e)) (he : P.underlying e = some (.int .u8)) (hc : P.cellsOf t = n) (hce : P.cellsOf e = 1) (hk : P.keyTypeAt 2 t = true) (f g : List UInt8) (hf : f.length = n) (hg : g.length = n) :
    (Op.equal t (.agg (FB f)) (.agg (FB g))).run P w = .ok (decide (f = g)) w := by
  have form : ∀ f : List UInt8, f.length = n → (Value.agg (FB f)).formed P t = true := by
    intro f hf
    simp [Value.formed, ht, hc, hf]
  obtain ⟨r, hr, hiff⟩ := run_equalIn_deep (P := P) 9998 2 t hk w 2 2 (.agg (FB f)) (.agg (FB g)) _ _ (form f hf) (form g hg) (by simpa [Value.cells] using keyLits_bytes 0 n t e ht he hc hce f hf) (by simpa [Value.cells] using keyLits_bytes 0 n t e ht he hc hce g hg)
  have : r = decide (f = g) := by
    rw [Bool.eq_iff_iff, hiff, decide_eq_true_eq]
    exact ⟨fun h => lits_inj h, fun h => by rw [h]⟩
  subst this
  exact hr
theorem run_eql_bytes (w : World) (n : Nat) (t e : TypeId) (ht : P.underlying t = some (.array n e)) (he : P.underlying e = some (.int .u8)) (hc : P.cellsOf t = n) (hce : P.cellsOf e = 1) (hk : P.keyTypeAt 2 t = true) (f g : List UInt8) (hf : f.length = n) (hg : g.length = n) :
    (binOp .eql t (.agg (FB f)) (.agg (FB g))).run P w = .ok (.bool (decide (f = g))) w := by
  simp only [binOp]
  simp [run_equal_bytes w n t e ht he hc hce hk f g hf hg]
theorem run_neq_bytes (w : World) (n : Nat) (t e : TypeId) (ht : P.underlying t = some (.array n e)) (he : P.underlying e = some (.int .u8)) (hc : P.cellsOf t = n) (hce : P.cellsOf e = 1) (hk : P.keyTypeAt 2 t = true) (f g : List UInt8) (hf : f.length = n) (hg : g.length = n) :
    (binOp .neq t (.agg (FB f)) (.agg (FB g))).run P w = .ok (.bool (!decide (f = g))) w := by
  simp only [binOp]
  simp [run_equal_bytes w n t e ht he hc hce hk f g hf hg]
end

theorem blk_setCells (g : Nat) (t : TypeId) : ∀ (vs : List Value) (o : Nat) (w : World) (L : List Value), Blk w g t L.toArray → o + vs.length ≤ L.length → Blk (w.setCells g o vs) g t (L.take o ++ vs ++ L.drop (o + vs.length)).toArray := by
  intro vs
  induction vs with
  | nil => intro o w L h ho; simpa [World.setCells] using h
  | cons v vs ih =>
    intro o w L h ho
    simp only [List.length_cons] at ho
    have h1 := h.set_ o v
    simp only [List.setIfInBounds_toArray] at h1
    have := ih (o + 1) (w.setCell ⟨g, o, none⟩ v) (L.set o v) h1 (by simp; omega)
    have e : (L.set o v).take (o + 1) ++ vs ++ (L.set o v).drop (o + 1 + vs.length) = L.take o ++ v :: vs ++ L.drop (o + (vs.length + 1)) := by
      rw [List.drop_set_of_lt (by omega), List.take_succ_eq_append_getElem (by simp; omega), List.take_set_of_le (Nat.le_refl _)]
      simp [Nat.add_assoc, Nat.add_comm 1]
    rw [e] at this
    simpa [World.setCells] using this
theorem fr_setCells (g : Nat) : ∀ (vs : List Value) (o : Nat) (w : World), Fr (fun k => k = g) w (w.setCells g o vs) := by
  intro vs
  induction vs with
  | nil => intro o w; exact Fr.refl _ _
  | cons v vs ih =>
    intro o w
    exact ((Fr.refl (fun k => k = g) w).setCell (p := ⟨g, o, none⟩) (.inl rfl) v).trans ((ih (o + 1) (w.setCell ⟨g, o, none⟩ v)).mono fun _ _ h => .inl h)
section
variable {P : Program} {ops : Array Oper} {rest : List Oper} {o : Oper} {a : Act} {w : World} {Q : Exit → Act → World → Prop}
/-- A whole block stored. -/
theorem wpList_store_blk (hgd : o.guard = none) (ty : TypeId) (x y : Operand) (ho : o.op = .store ty x y) (g : Nat) (hx : a.eval x = .pointer (some ⟨g, 0, none⟩)) (cs : Array Value) (hy : a.eval y = .agg cs)
    (t : TypeId) (cs0 : Array Value) (hb : Blk w g t cs0) (hsz : cs0.size = cs.size) (hi : (P.info? ty).map (·.size) = some cs.size) (h1 : ∀ v ∈ cs.toList, v.oneCell' = true)
    (h : ∀ w', Blk w' g t cs → Fr (fun k => k = g) w w' → wpList P ops Q rest (a.put o.dst undef) w') : wpList P ops Q (o :: rest) a w := by
  refine wpList_store_mid hgd ty x y ho g 0 cs hx hy (fun j hj => ⟨?_, hb.frozen _⟩) hi (Array.all_eq_true_iff_forall_mem.2 fun v hv => h1 v (by simpa using hv)) (h _ ?_ (fr_setCells g _ _ _))
  · rw [hb.cell, Array.getElem?_eq_getElem (by omega)]; rfl
  · have := blk_setCells g t cs.toList 0 w cs0.toList (by simpa using hb) (by simp; omega)
    have e : cs0.toList.take 0 ++ cs.toList ++ cs0.toList.drop (0 + cs.toList.length) = cs.toList := by
      rw [List.drop_eq_nil_of_le (by simp; omega)]
      simp
    rw [e] at this
    simpa using this
/-- A whole block loaded. -/
theorem wpList_load_blk (hgd : o.guard = none) (ty : TypeId) (x : Operand) (ho : o.op = .load ty x) (g : Nat) (hx : a.eval x = .pointer (some ⟨g, 0, none⟩)) (t : TypeId) (cs : Array Value) (hb : Blk w g t cs) (d : TypeDesc)
    (hu : P.underlying ty = some d) (hd : (match d with | .struct _ | .array _ _ => true | _ => false) = true) (hi : (P.info? ty).map (·.size) = some cs.size) (h : wpList P ops Q rest (a.put o.dst (.agg cs)) w) : wpList P ops Q (o :: rest) a w :=
  wpList_load_row hgd ty x ho g hx t cs (0, 0) d hb hu hd hi h
end
theorem fb_info {P : Program} {t : TypeId} {n : Nat} {f : List UInt8} (h : (P.info? t).map (·.size) = some n) (hf : f.length = n) : (P.info? t).map (·.size) = some (FB f).size := by
  rw [h]; simp [FB, hf]
theorem fb_one (f : List UInt8) : ∀ v ∈ (FB f).toList, v.oneCell' = true := by
  intro v hv
  simp only [FB, List.mem_map] at hv
  obtain ⟨x, -, rfl⟩ := hv
  rfl
theorem run_index_plain {P : Program} {t e : TypeId} {n : Nat} (hu : P.underlying t = some (.array n e)) (he : P.plainKey e = true) (hs : (P.info? e).map (·.size) = some 1) {cs : Array Value} {i : Nat} {v : Value} (hi : i < n) (hx : cs[i]? = some v) (w : World) :
    (Instr.index t (.agg cs) (.int .i64 (i : Int))).run P w = .ok v w := by
  obtain ⟨inf, h1, h2⟩ := Option.map_eq_some_iff.1 hs
  have h0 : (0 : Int) ≤ (i : Int) := Int.natCast_nonneg _
  simp [Instr.index, asIntOf, run_underlying hu, sizeOf, typeInfo, h1, h2, hi, run_part_plain w he hx]
theorem foldl_zip : ∀ (vs : List Value) (n : Nat) (Z : List Value), n + vs.length ≤ Z.length →
    List.foldl (fun (cs : Array Value) (x : Value × Nat) => cs.setIfInBounds x.2 x.1) Z.toArray (vs.zipIdx n) = (Z.take n ++ vs ++ Z.drop (n + vs.length)).toArray := by
  intro vs
  induction vs with
  | nil => intro n Z h; simp
  | cons v vs ih =>
    intro n Z h
    simp only [List.length_cons] at h
    rw [List.zipIdx_cons, List.foldl_cons]
    simp only [List.setIfInBounds_toArray]
    rw [ih (n + 1) (Z.set n v) (by simp; omega)]
    congr 1
    rw [List.take_set, List.drop_set]
    have e1 : (Z.take (n + 1)).set n v = Z.take n ++ [v] := by
      rw [List.take_succ_eq_append_getElem (by omega), List.set_append_right _ _ (by simp; omega)]
      simp [Nat.min_eq_left (show n ≤ Z.length by omega)]
    rw [e1, if_pos (by omega), show n + 1 + vs.length = n + (v :: vs).length from by simp; omega]
    simp
theorem foldl_zip_all (vs : List Value) (Z : Array Value) (h : Z.size = vs.length) :
    List.foldl (fun (cs : Array Value) (x : Value × Nat) => cs.setIfInBounds x.2 x.1) Z vs.zipIdx = vs.toArray := by
  have := foldl_zip vs 0 Z.toList (by simp [h])
  have e : Z.toList.drop vs.length = [] := List.drop_eq_nil_of_le (by simp [h])
  simpa [e] using this
theorem Blk.range {w : World} {g : Nat} {t : TypeId} {f : List UInt8} (h : Blk w g t (FB f)) : w.rangeAt g 0 (f.map bv) := fun j v hv => by
  rw [show 0 + j = j from Nat.zero_add j, h.cell]
  simpa [FB] using hv
/-- The load of a whole array by a guarded operation that is wanted. -/
theorem wpList_load_blkg {P : Program} {ops : Array Oper} {rest : List Oper} {o : Oper} {a : Act} {w : World} {Q : Exit → Act → World → Prop} (hw : Region.wanted o (yielded ops a.tmps) = true)
    (ty : TypeId) (x : Operand) (ho : o.op = .load ty x) (g : Nat) (hx : a.eval x = .pointer (some ⟨g, 0, none⟩)) (t : TypeId) (f : List UInt8) (hb : Blk w g t (FB f)) (d : TypeDesc)
    (hu : P.underlying ty = some d) (hd : d.isRow = true) (hi : (P.info? ty).map (·.size) = some (FB f).size) (h : wpList P ops Q rest (a.put o.dst (.agg (FB f))) w) : wpList P ops Q (o :: rest) a w :=
  wpList_step fun K hK => by
    simp only [hw, if_true]
    exact wp_load_mid ty x ho g 0 hx (f.map bv) d hb.range hu hd (by rw [hi]; simp [FB]) (hK _ _ h)
/-- The store of a whole block, at one operation. -/
theorem wp_store_blk {P : Program} {o : Oper} {a : Act} {w : World} {K : Act → World → Prop} {Q : Exit → Act → World → Prop} (ty : TypeId) (x y : Operand) (ho : o.op = .store ty x y) (g : Nat) (hx : a.eval x = .pointer (some ⟨g, 0, none⟩)) (f : List UInt8) (hy : a.eval y = .agg (FB f))
    (t : TypeId) (cs0 : Array Value) (hb : Blk w g t cs0) (hsz : cs0.size = (FB f).size) (hi : (P.info? ty).map (·.size) = some (FB f).size)
    (h : ∀ w', Blk w' g t (FB f) → Fr (fun k => k = g) w w' → K (a.put o.dst undef) w') : o.wp P a w K Q := by
  refine wp_store_mid ty x y ho g 0 (FB f) hx hy (fun j hj => ⟨?_, hb.frozen _⟩) hi (Array.all_eq_true_iff_forall_mem.2 fun v hv => fb_one f v (by simpa using hv)) (h _ ?_ (fr_setCells g _ _ _))
  · rw [hb.cell, Array.getElem?_eq_getElem (by omega)]; rfl
  · have := blk_setCells g t (FB f).toList 0 w cs0.toList (by simpa using hb) (by rw [Array.length_toList, Array.length_toList]; omega)
    have e : cs0.toList.take 0 ++ (FB f).toList ++ cs0.toList.drop (0 + (FB f).toList.length) = (FB f).toList := by
      rw [List.drop_eq_nil_of_le (by rw [Array.length_toList, Array.length_toList]; omega)]
      simp
    rw [e] at this
    simpa using this
theorem fb_size (f : List UInt8) : (FB f).size = f.length := by simp [FB]
end Go.Proofs.Ytpnjkebjdclkfaa

/- Schemas: the size that is asked of (Great), depths. Conditions: none. -/
namespace Go.Proofs.Ytpnjkebjdclkfaa
open Go.RowKit Go.ChangeShapes Go.WideShapes Go.ChangeAt

theorem i64_wf {n : Int} (h : I64 n) : -9223372036854775808 ≤ n ∧ n ≤ 9223372036854775807 := bounds_i64 h
/-- How much is left of n. -/
def roomS : Nat → DSch → Int → Int
  | 0, _, _ => -1
  | k + 1, s, n =>
    if 0 ≤ n - 1 - s.words.length ∧ s.words.any (fun x => decide (100 < x.length)) then -1
    else s.parts.foldl (fun m p => if 0 ≤ m then roomS k p m else m) (n - 1 - s.words.length)
theorem foldRoom_neg (k : Nat) : ∀ (l : List DSch) (m : Int), m < 0 → l.foldl (fun m p => if 0 ≤ m then roomS k p m else m) m = m
  | [], _, _ => rfl
  | p :: l, m, h => by rw [List.foldl_cons, if_neg (by omega)]; exact foldRoom_neg k l m h
/-- Nothing too great: depth, words' sizes, all hereditarily. -/
def FineS : Nat → DSch → Prop
  | 0, _ => False
  | k + 1, s => (∀ x ∈ s.words, x.length ≤ 100) ∧ ∀ p ∈ s.parts, FineS k p
theorem room_spec : ∀ (k : Nat) (s : DSch) (n : Int), 0 ≤ roomS k s n → roomS k s n = n - s.weight ∧ FineS k s
  | 0, s, n, h => by simp [roomS] at h
  | k + 1, s, n, h => by
    have hwt := DSch.weight_eq s
    unfold roomS at h ⊢
    by_cases hb : 0 ≤ n - 1 - (s.words.length : Int) ∧ s.words.any (fun x => decide (100 < x.length)) = true
    · rw [if_pos hb] at h; omega
    · rw [if_neg hb] at h ⊢
      have hn : 0 ≤ n - 1 - (s.words.length : Int) := by
        rcases Int.lt_or_le (n - 1 - (s.words.length : Int)) 0 with hx | hx
        · rw [foldRoom_neg k s.parts _ hx] at h; exact h
        · exact hx
      have hw : ∀ x ∈ s.words, x.length ≤ 100 := by
        intro x hx
        rcases Nat.lt_or_ge 100 x.length with hgt | hle
        · exact absurd ⟨hn, List.any_eq_true.2 ⟨x, hx, by simpa using hgt⟩⟩ hb
        · exact hle
      have key : ∀ (l : List DSch) (m : Int), 0 ≤ l.foldl (fun m p => if 0 ≤ m then roomS k p m else m) m →
          l.foldl (fun m p => if 0 ≤ m then roomS k p m else m) m = m - DSch.weights l ∧ ∀ p ∈ l, FineS k p := by
        intro l
        induction l with
        | nil => intro m _; exact ⟨by simp [DSch.weights], fun p hp => by cases hp⟩
        | cons p l ih =>
          intro m hm
          rw [List.foldl_cons] at hm ⊢
          have h0 : 0 ≤ m := by
            rcases Int.lt_or_le m 0 with hx | hx
            · rw [if_neg (by omega), foldRoom_neg k l m hx] at hm; exact hm
            · exact hx
          rw [if_pos h0] at hm ⊢
          have h1 : 0 ≤ roomS k p m := by
            rcases Int.lt_or_le (roomS k p m) 0 with hx | hx
            · rw [foldRoom_neg k l _ hx] at hm; exact hm
            · exact hx
          obtain ⟨e1, f1⟩ := room_spec k p m h1
          obtain ⟨e2, f2⟩ := ih _ hm
          refine ⟨by rw [e2, e1]; simp only [DSch.weights]; omega, fun q hq => ?_⟩
          rcases List.mem_cons.1 hq with rfl | hq
          · exact f1
          · exact f2 q hq
      obtain ⟨e, f⟩ := key s.parts _ h
      refine ⟨by rw [e]; omega, ?_⟩
      exact ⟨hw, f⟩
theorem room_le : ∀ (k : Nat) (s : DSch) (n : Int), -1 ≤ n → roomS k s n ≤ n ∧ (roomS k s n ≤ -1 ∨ 0 ≤ roomS k s n)
  | 0, s, n, h => by simp [roomS]; omega
  | k + 1, s, n, h => by
    unfold roomS
    split
    · omega
    · have key : ∀ (l : List DSch) (m : Int), l.foldl (fun m p => if 0 ≤ m then roomS k p m else m) m ≤ m := by
        intro l
        induction l with
        | nil => intro m; exact Int.le_refl _
        | cons p l ih =>
          intro m
          rw [List.foldl_cons]
          refine Int.le_trans (ih _) ?_
          split
          · exact (room_le k p m (by omega)).1
          · exact Int.le_refl _
      have := key s.parts (n - 1 - s.words.length)
      omega
end Go.Proofs.Ytpnjkebjdclkfaa

/- Schemas, walked: Great. Conditions: none. -/
namespace Go.Proofs.Ytpnjkebjdclkfaa
open Go.RowKit

theorem info_sch : (Try.prog.info? 25).map (·.size) = some 3 := by kernel_rfl

set_option maxHeartbeats 1000000 in
set_option maxRecDepth 20000 in
theorem roomS_calls (k : Nat) : ∀ (s : DSch) (n : Int) (cs : List Value) (w : World), IsSch w (· < w.heap.size) s cs → k ≤ 1000 → 0 ≤ n → n ≤ 1000 →
    Calls Try.prog 58 #[.agg cs.toArray, .int .i64 n, .int .i64 k] w (fun e w' => -140737488351235 ≤ roomS k s n ∧ Gives (.int .i64 (roomS k s n)) w e w') := by
  induction k with
  | zero =>
    intro s n cs w hs hk hn hn2
    cases hs with
    | mk h1 h2 h3 h4 h5 hA hC hP h6 h7 =>
      rename_i kind words parts Aw Ap cw cp b o C
      clear h2 hA hC hP
      go_enter Try.func58, Try.ntmps58
      go_wp2
      go_ret
      exact ⟨by simp [roomS], ret_eq rfl, (Below.refl _ _).alloc (Nat.le_refl _) _⟩
  | succ k ih =>
    intro s n cs w hs hk hn hn2
    have HI := hide ih
    clear ih
    cases hs with
    | mk h1 h2 h3 h4 h5 hA hC hP h6 h7 =>
      rename_i kind words parts Aw Ap cw cp b o C
      have HR := hide h2
      have HA := hide hA
      have HC := hide hC
      have HP := hide hP
      have HSP : Hid (roomS (k + 1) (.mk kind words parts) n = if 0 ≤ n - 1 - words.length ∧ words.any (fun x => decide (100 < x.length)) then -1 else parts.foldl (fun m p => if 0 ≤ m then roomS k p m else m) (n - 1 - words.length)) := hide rfl
      have hsz := hide h3
      clear h2 hA hC hP h1 h3
      have hk1 : (((k + 1 : Nat) : Int) == 0) = false := by simp; omega
      go_enter Try.func58, Try.ntmps58
      go_wp2_with fail
      go_loop [7] (fun i => ∃ j : Nat, i = .int .i64 j ∧ j ≤ words.length ∧ ((0 ≤ n - 1 - (words.length : Int)) → ∀ x ∈ words.take j, x.length ≤ 100)) (fun i => words.length - (intOf i).toNat)
      case atStart => exact ⟨0, rfl, Nat.zero_le _, by simp⟩
      case round =>
        obtain ⟨j, rfl, hj, hsm⟩ := hrel
        have HSM := hide hsm
        clear hsm
        by_cases hgo : j < words.length ∧ 0 ≤ n - 1 - (words.length : Int)
        · obtain ⟨hlt, h0⟩ := hgo
          obtain ⟨b1, o1, rfl, hb1, hc1⟩ := HR.out.at_ hlt
          have hcell : (w.alloc (.cells #[.int .i64 kind, .slice (some ⟨b1, o1, none⟩) words.length cw, .slice Ap parts.length cp] 25)).cell? ⟨b1, o1 + j, none⟩ = some (sv words[j]) := by rw [World.cell?_alloc_lt _ _ _ hb1]; exact hc1
          have hwl : words[j].length ≤ 9223372036854775807 := hsz.out _ (List.getElem_mem _)
          have HT : Hid (∀ x ∈ words.take j, x.length ≤ 100) := hide (HSM.out h0)
          clear hc1
          by_cases hbig : 100 < words[j].length
          · have HB : Hid (words.any (fun x => decide (100 < x.length)) = true) := hide (List.any_eq_true.2 ⟨_, List.getElem_mem hlt, by simpa using hbig⟩)
            generalize words[j] = x at *
            go_wp2
            go_ret
            exact ⟨by rw [HSP.out, if_pos ⟨h0, HB.out⟩]; omega, ret_eq (by rw [HSP.out, if_pos ⟨h0, HB.out⟩]; rfl), (Below.refl _ _).alloc (Nat.le_refl _) _⟩
          · have HB : Hid (0 ≤ n - 1 - (words.length : Int) → ∀ x ∈ words.take (j + 1), x.length ≤ 100) := hide fun _ x hx => by
              rw [List.take_succ_eq_append_getElem hlt] at hx
              rcases List.mem_append.1 hx with h | h
              · exact HT.out x h
              · rw [List.mem_singleton.1 h]; omega
            generalize words[j] = x at *
            go_wp2_with fail
            exact ⟨⟨j + 1, by go_num, by omega, HB.out⟩, by simp [intOf]; omega⟩
        · have HN : Hid (¬ (0 ≤ n - 1 - (words.length : Int) ∧ words.any (fun x => decide (100 < x.length)) = true)) := hide fun ⟨h0, h1⟩ => by
            obtain ⟨x, hx, hx2⟩ := List.any_eq_true.1 h1
            have := HSM.out h0 x (by rw [List.take_of_length_le (by omega)]; exact hx)
            simp at hx2
            omega
          have HE : Hid (roomS (k + 1) (.mk kind words parts) n = parts.foldl (fun m p => if 0 ≤ m then roomS k p m else m) (n - 1 - words.length)) := hide (by rw [HSP.out, if_neg HN.out])
          clear HN HSM HSP
          have HK0 := hide (Blk.new w 25 #[.int .i64 kind, .slice Aw words.length cw, .slice Ap parts.length cp])
          have HW0 := hide ((Below.refl w.heap.size w).alloc (Nat.le_refl _) (.cells #[.int .i64 kind, .slice Aw words.length cw, .slice Ap parts.length cp] 25))
          have hlow : -140737488351235 ≤ n - 1 - (words.length : Int) := by omega
          have hstart : n - 1 - (words.length : Int) ≤ 1000 := by omega
          generalize hm0 : n - 1 - (words.length : Int) = m0 at *
          have hgo' : ¬ (j < words.length ∧ 0 ≤ m0) := hgo
          clear hgo hm0
          go_wp2_with fail
          all_goals
            go_loopw [1, 8] (fun nv iv wr => ∃ (i : Nat) (m : Int), nv = .int .i64 m ∧ iv = .int .i64 i ∧ i ≤ parts.length ∧ m ≤ 1000 ∧ -140737488351235 ≤ m ∧ m = (parts.take i).foldl (fun m p => if 0 ≤ m then roomS k p m else m) m0 ∧ Blk wr w.heap.size 25 #[.int .i64 kind, .slice Aw words.length cw, .slice Ap parts.length cp] ∧ Below w.heap.size w wr) (fun _ iv _ => parts.length - (intOf iv).toNat)
            case atStart => exact ⟨0, m0, rfl, rfl, Nat.zero_le _, hstart, hlow, rfl, HK0.out, HW0.out⟩
            case round =>
              clear HK0 HW0
              obtain ⟨i, m, rfl, rfl, hi, hm1, hm2, hfold, hblk, hbel⟩ := hrel
              have HF := hide hfold
              have GB := hide hblk
              have GW := hide hbel
              clear hfold hblk hbel
              have c1 : wr.cell? ⟨w.heap.size, 1, none⟩ = some (.slice Aw words.length cw) := GB.out.cell 1
              have c2 : wr.cell? ⟨w.heap.size, 2, none⟩ = some (.slice Ap parts.length cp) := GB.out.cell 2
              by_cases hgo : i < parts.length ∧ 0 ≤ m
              · obtain ⟨hlt, h0⟩ := hgo
                obtain ⟨rfl, hb⟩ := HA.out (by omega)
                have hg := List.getElem?_eq_getElem hlt
                obtain ⟨hl3, hr⟩ := HC.out i _ hg
                have HRW : Hid (wr.rangeAt b (o + i * 3) (C i)) := hide fun q v hv => (GW.out.cell (p := ⟨b, o + i * 3 + q, none⟩) hb).trans (hr q v hv)
                have HL3 := hide hl3
                have HPI := hide ((HP.out i _ hg).more GW.out)
                have HRL := hide (room_le k parts[i] m (by omega))
                have HFS : Hid ((parts.take (i + 1)).foldl (fun m p => if 0 ≤ m then roomS k p m else m) m0 = roomS k parts[i] m) := hide (by
                  rw [List.take_succ_eq_append_getElem hlt, List.foldl_append, ← HF.out, List.foldl_cons, List.foldl_nil, if_pos h0])
                clear hr hl3 hg
                generalize parts[i] = p at *
                generalize C i = cs at *
                go_wp2_with (first | (refine wpList_load_mid rfl 25 _ rfl b (o + i * 3) rfl cs _ HRW.out rfl rfl (by rw [HL3.out]; exact info_sch) ?_) | fail)
                refine (HI.out p m cs _ HPI.out (by omega) h0 hm1).mono ?_
                rintro e w1 ⟨hlo, rfl, hb1⟩
                have hrl := HRL.out
                generalize roomS k p m = m1 at *
                go_wp2_with fail
                exact ⟨⟨i + 1, m1, rfl, by go_num, by omega, by omega, by omega, HFS.out.symm, GB.out.below hb1 GB.out.lt, GW.out.trans (hb1.mono GW.out.size)⟩, by simp [intOf]; omega⟩
              · have HX : Hid (roomS (k + 1) (.mk kind words parts) n = m) := hide (by
                  rw [HE.out, HF.out]
                  rcases Nat.lt_or_ge i parts.length with hx | hx
                  · have hm : m < 0 := by omega
                    have e : parts.foldl (fun m p => if 0 ≤ m then roomS k p m else m) m0 = (parts.drop i).foldl (fun m p => if 0 ≤ m then roomS k p m else m) m := by
                      rw [HF.out, ← List.foldl_append, List.take_append_drop]
                    rw [e, foldRoom_neg k _ _ hm, HF.out]
                  · rw [List.take_of_length_le hx])
                clear HF HE
                by_cases hlt : i < parts.length
                all_goals
                  go_wp2
                  go_ret
                  exact ⟨by rw [HX.out]; exact hm2, ret_eq (by rw [HX.out]; rfl), GW.out⟩

set_option maxHeartbeats 400000 in
set_option maxRecDepth 20000 in
theorem greatS_calls (s : DSch) (cs : List Value) (w : World) (hs : IsSch w (· < w.heap.size) s cs) :
    Calls Try.prog 11 #[.agg cs.toArray] w (Gives (.bool (decide (roomS 12 s 300 < 0))) w) := by
  have HB := hide (Blk.new w 25 cs.toArray)
  have HW := hide ((Below.refl w.heap.size w).alloc (Nat.le_refl _) (.cells cs.toArray 25))
  have HS := hide (hs.more HW.out)
  have hl := hs.length
  have HC := hide (roomS_calls 12 s 300 cs _ HS.out (by omega) (by omega) (by omega))
  have HL := hide (show (Try.prog.info? 25).map (·.size) = some cs.toArray.size by rw [info_sch]; simp [hl])
  clear hs hl
  go_enter Try.func11, Try.ntmps11
  go_wp2_with (first | (refine wpList_load_blk rfl 25 _ rfl _ rfl _ _ HB.out _ rfl rfl HL.out ?_) | fail)
  refine HC.out.mono ?_
  rintro e w1 ⟨hlo, rfl, hb1⟩
  have HW1 := hide (HW.out.trans (hb1.mono HW.out.size))
  clear hb1
  generalize roomS 12 s 300 = m at *
  go_wp2
  go_ret
  exact ⟨ret_eq rfl, HW1.out⟩
end Go.Proofs.Ytpnjkebjdclkfaa

/- Values, walked: whether one is right by itself. Conditions: none. -/
namespace Go.Proofs.Ytpnjkebjdclkfaa
open Go.RowKit

/-- Right by itself. -/
def plainV (v : DVal) : Bool :=
  if v.kind = 1 then (decide (v.names.length = 0) && (decide (v.ids.length = 0) && decide (v.parts.length = 0))) && (decide (v.s = []) && (decide (v.n = 0) || decide (v.n = 1)))
  else if v.kind = 2 then (decide (v.names.length = 0) && (decide (v.ids.length = 0) && decide (v.parts.length = 0))) && decide (v.s = [])
  else if v.kind = 3 then (decide (v.names.length = 0) && (decide (v.ids.length = 0) && decide (v.parts.length = 0))) && (decide (v.n = 0) && decide (v.s.length ≤ 64))
  else if v.kind = 4 then (decide (v.names.length = 0) && (decide (v.ids.length = 0) && decide (v.parts.length = 0))) && (decide (v.n = 0) && nameB v.s)
  else if v.kind = 5 then decide (v.n = 0) && (decide (v.s = []) && (decide (v.ids.length = 0) && (decide (v.parts.length = v.names.length) && riseV v.names)))
  else if v.kind = 6 then decide (v.n = 0) && (decide (v.s = []) && (decide (v.names.length = 0) && (decide (v.parts.length = v.ids.length) && idsB v.ids)))
  else false

set_option maxHeartbeats 4000000 in
set_option maxRecDepth 20000 in
theorem valPlain_calls (s : DVal) (cs : List Value) (w : World) (hs : IsVal w (· < w.heap.size) s cs) :
    Calls Try.prog 112 #[.agg cs.toArray] w (Gives (.bool (plainV s)) w) := by
  obtain ⟨hk1, hki⟩ := hs.kind_
  obtain ⟨hn1, hni⟩ := hs.n_
  obtain ⟨hs1, hsl⟩ := hs.s_
  obtain ⟨Aw, cw, hw1, hwr, hwz, hwc, hwm⟩ := hs.names_
  obtain ⟨Ai, ci, hi1, hir, hiz, hic, him⟩ := hs.ids_
  obtain ⟨Ap, cp, C, hp1, hpc, hpm, hP, hA⟩ := hs.partsF
  have HW0 := hide ((Below.refl w.heap.size w).alloc (Nat.le_refl _) (.cells cs.toArray 31))
  have HCN := hide (fun (W : World) => name_calls s.s W hsl)
  have HCR := hide (fun (W : World) (hW : Below w.heap.size w W) => riseV_calls s.names Aw cw W (hwr.more hW) hwz (by omega))
  have HCU := hide (fun (W : World) (hW : Below w.heap.size w W) => ids_calls s.ids Ai ci W (hir.more hW) (by omega) hic)
  have HSP : Hid (plainV s = _) := hide (by unfold plainV; exact rfl)
  clear hs hwr hwz hir hiz hP hA hki hni
  generalize plainV s = res at *
  generalize nameB s.s = bn at *
  generalize riseV s.names = br at *
  generalize idsB s.ids = bu at *
  generalize s.names.length = nn at *
  generalize s.ids.length = ni at *
  generalize s.parts.length = np at *
  generalize s.kind = kd at *
  generalize s.n = num at *
  generalize s.s = x at *
  go_enter Try.func112, Try.ntmps112
  go_upto_region 1 with fail
  go_cut [3] (fun v wx => v = .bool (decide (nn = 0) && (decide (ni = 0) && decide (np = 0))) ∧ wx = w.alloc (.cells cs.toArray 31))
  case first =>
    by_cases h1 : nn = 0
    · have e1 : ((nn : Int) == 0) = true := by simp [h1]
      have g1 := hide (decide_eq_true h1)
      clear h1
      by_cases h2 : ni = 0
      · have e2 : ((ni : Int) == 0) = true := by simp [h2]
        have g2 := hide (decide_eq_true h2)
        clear h2
        by_cases h3 : np = 0
        · have e3 : ((np : Int) == 0) = true := by simp [h3]
          have g3 := hide (decide_eq_true h3)
          clear h3
          go_wp2_with fail
          go_meet
          exact ⟨by rw [g1.out, g2.out, g3.out]; rfl, rfl⟩
        · have e3 : ((np : Int) == 0) = false := by simpa using h3
          have g3 := hide (decide_eq_false h3)
          clear h3
          go_wp2_with fail
          go_meet
          exact ⟨by rw [g1.out, g2.out, g3.out]; rfl, rfl⟩
      · have e2 : ((ni : Int) == 0) = false := by simpa using h2
        have g2 := hide (decide_eq_false h2)
        clear h2
        go_wp2_with fail
        go_meet
        exact ⟨by rw [g1.out, g2.out]; rfl, rfl⟩
    · have e1 : ((nn : Int) == 0) = false := by simpa using h1
      have g1 := hide (decide_eq_false h1)
      clear h1
      go_wp2_with fail
      go_meet
      exact ⟨by rw [g1.out]; rfl, rfl⟩
  case rest =>
    obtain ⟨rfl, rfl⟩ := hcut
    have key : kd = 1 ∨ kd = 2 ∨ kd = 3 ∨ kd = 4 ∨ kd = 5 ∨ kd = 6 ∨ (kd ≠ 1 ∧ kd ≠ 2 ∧ kd ≠ 3 ∧ kd ≠ 4 ∧ kd ≠ 5 ∧ kd ≠ 6) := by omega
    rcases key with rfl | rfl | rfl | rfl | rfl | rfl | ⟨n1, n2, n3, n4, n5, n6⟩
    case inr.inr.inr.inr.inr.inr =>
      have e1 : (kd == 1) = false := by simpa using n1
      have e2 : (kd == 2) = false := by simpa using n2
      have e3 : (kd == 3) = false := by simpa using n3
      have e4 : (kd == 4) = false := by simpa using n4
      have e5 : (kd == 5) = false := by simpa using n5
      have e6 : (kd == 6) = false := by simpa using n6
      have HR : Hid (res = false) := hide (by rw [HSP.out]; simp [n1, n2, n3, n4, n5, n6])
      clear n1 n2 n3 n4 n5 n6 HSP
      go_wp2
      go_ret
      exact ⟨ret_eq (by rw [HR.out]; rfl), HW0.out⟩
    case inl =>
      have HR : Hid (res = ((decide (nn = 0) && (decide (ni = 0) && decide (np = 0))) && (decide (x = []) && (decide (num = 0) || decide (num = 1))))) := hide (by rw [HSP.out]; simp)
      clear HSP
      generalize (decide (nn = 0) && (decide (ni = 0) && decide (np = 0))) = eB at *
      cases eB
      case false =>
        go_wp2
        go_ret
        exact ⟨ret_eq (by rw [HR.out]; rfl), HW0.out⟩
      rw [Bool.true_and] at HR
      by_cases hsE : x = []
      case neg =>
        have fsE : (x == []) = false := by simpa using hsE
        rw [decide_eq_false hsE] at HR
        clear hsE
        go_wp2
        go_ret
        exact ⟨ret_eq (by rw [HR.out]; rfl), HW0.out⟩
      have fsE : (x == []) = true := by simp [hsE]
      rw [decide_eq_true hsE, Bool.true_and] at HR
      clear hsE
      by_cases hn0 : num = 0
      · have fn0 : (num == 0) = true := by simp [hn0]
        rw [decide_eq_true hn0] at HR
        clear hn0
        go_wp2
        go_ret
        exact ⟨ret_eq (by rw [HR.out]; rfl), HW0.out⟩
      · have fn0 : (num == 0) = false := by simpa using hn0
        rw [decide_eq_false hn0] at HR
        clear hn0
        by_cases hn1 : num = 1
        · have fn1 : (num == 1) = true := by simp [hn1]
          rw [decide_eq_true hn1] at HR
          clear hn1
          go_wp2
          go_ret
          exact ⟨ret_eq (by rw [HR.out]; rfl), HW0.out⟩
        · have fn1 : (num == 1) = false := by simpa using hn1
          rw [decide_eq_false hn1] at HR
          clear hn1
          go_wp2
          go_ret
          exact ⟨ret_eq (by rw [HR.out]; rfl), HW0.out⟩
    case inr.inl =>
      have HR : Hid (res = ((decide (nn = 0) && (decide (ni = 0) && decide (np = 0))) && (decide (x = [])))) := hide (by rw [HSP.out]; simp)
      clear HSP
      generalize (decide (nn = 0) && (decide (ni = 0) && decide (np = 0))) = eB at *
      cases eB
      case false =>
        go_wp2
        go_ret
        exact ⟨ret_eq (by rw [HR.out]; rfl), HW0.out⟩
      rw [Bool.true_and] at HR
      by_cases hsE : x = []
      · have fsE : (x == []) = true := by simp [hsE]
        rw [decide_eq_true hsE] at HR
        clear hsE
        go_wp2
        go_ret
        exact ⟨ret_eq (by rw [HR.out]; rfl), HW0.out⟩
      · have fsE : (x == []) = false := by simpa using hsE
        rw [decide_eq_false hsE] at HR
        clear hsE
        go_wp2
        go_ret
        exact ⟨ret_eq (by rw [HR.out]; rfl), HW0.out⟩
    case inr.inr.inl =>
      have HR : Hid (res = ((decide (nn = 0) && (decide (ni = 0) && decide (np = 0))) && (decide (num = 0) && decide (x.length ≤ 64)))) := hide (by rw [HSP.out]; simp)
      clear HSP
      generalize (decide (nn = 0) && (decide (ni = 0) && decide (np = 0))) = eB at *
      cases eB
      case false =>
        go_wp2
        go_ret
        exact ⟨ret_eq (by rw [HR.out]; rfl), HW0.out⟩
      rw [Bool.true_and] at HR
      by_cases hn0 : num = 0
      case neg =>
        have fn0 : (num == 0) = false := by simpa using hn0
        rw [decide_eq_false hn0] at HR
        clear hn0
        go_wp2
        go_ret
        exact ⟨ret_eq (by rw [HR.out]; rfl), HW0.out⟩
      have fn0 : (num == 0) = true := by simp [hn0]
      rw [decide_eq_true hn0, Bool.true_and] at HR
      clear hn0
      by_cases hl64 : x.length ≤ 64
      · have fl64 : (x.length : Int) ≤ 64 := by omega
        rw [decide_eq_true hl64] at HR
        clear hl64
        go_wp2
        go_ret
        exact ⟨ret_eq (by rw [HR.out]; rfl), HW0.out⟩
      · have fl64 : ¬ (x.length : Int) ≤ 64 := by omega
        rw [decide_eq_false hl64] at HR
        clear hl64
        go_wp2
        go_ret
        exact ⟨ret_eq (by rw [HR.out]; rfl), HW0.out⟩
    case inr.inr.inr.inl =>
      have HR : Hid (res = ((decide (nn = 0) && (decide (ni = 0) && decide (np = 0))) && (decide (num = 0) && bn))) := hide (by rw [HSP.out]; simp)
      clear HSP
      generalize (decide (nn = 0) && (decide (ni = 0) && decide (np = 0))) = eB at *
      cases eB
      case false =>
        go_wp2
        go_ret
        exact ⟨ret_eq (by rw [HR.out]; rfl), HW0.out⟩
      rw [Bool.true_and] at HR
      by_cases hn0 : num = 0
      case neg =>
        have fn0 : (num == 0) = false := by simpa using hn0
        rw [decide_eq_false hn0] at HR
        clear hn0
        go_wp2
        go_ret
        exact ⟨ret_eq (by rw [HR.out]; rfl), HW0.out⟩
      have fn0 : (num == 0) = true := by simp [hn0]
      rw [decide_eq_true hn0, Bool.true_and] at HR
      clear hn0
      go_wp2_with fail
      refine (HCN.out _).mono ?_
      rintro e w1 ⟨rfl, hb1⟩
      have HB1 := hide (HW0.out.trans (hb1.mono HW0.out.size))
      clear hb1
      go_wp2
      go_ret
      exact ⟨ret_eq (by rw [HR.out] <;> rfl), HB1.out⟩
    case inr.inr.inr.inr.inl =>
      have HR : Hid (res = (decide (num = 0) && (decide (x = []) && (decide (ni = 0) && (decide (np = nn) && br))))) := hide (by rw [HSP.out]; simp)
      clear HSP
      generalize (decide (nn = 0) && (decide (ni = 0) && decide (np = 0))) = eB at *
      by_cases hn0 : num = 0
      case neg =>
        have fn0 : (num == 0) = false := by simpa using hn0
        rw [decide_eq_false hn0] at HR
        clear hn0
        go_wp2
        go_ret
        exact ⟨ret_eq (by rw [HR.out]; rfl), HW0.out⟩
      have fn0 : (num == 0) = true := by simp [hn0]
      rw [decide_eq_true hn0, Bool.true_and] at HR
      clear hn0
      by_cases hsE : x = []
      case neg =>
        have fsE : (x == []) = false := by simpa using hsE
        rw [decide_eq_false hsE] at HR
        clear hsE
        go_wp2
        go_ret
        exact ⟨ret_eq (by rw [HR.out]; rfl), HW0.out⟩
      have fsE : (x == []) = true := by simp [hsE]
      rw [decide_eq_true hsE, Bool.true_and] at HR
      clear hsE
      by_cases hiE : ni = 0
      case neg =>
        have fiE : ((ni : Int) == 0) = false := by simpa using hiE
        rw [decide_eq_false hiE] at HR
        clear hiE
        go_wp2
        go_ret
        exact ⟨ret_eq (by rw [HR.out]; rfl), HW0.out⟩
      have fiE : ((ni : Int) == 0) = true := by simp [hiE]
      rw [decide_eq_true hiE, Bool.true_and] at HR
      clear hiE
      by_cases hpn : np = nn
      case neg =>
        have fpn : ((np : Int) == (nn : Int)) = false := by simp; omega
        rw [decide_eq_false hpn] at HR
        clear hpn
        go_wp2
        go_ret
        exact ⟨ret_eq (by rw [HR.out]; rfl), HW0.out⟩
      have fpn : ((np : Int) == (nn : Int)) = true := by simp [hpn]
      rw [decide_eq_true hpn, Bool.true_and] at HR
      clear hpn
      go_wp2_with fail
      refine (HCR.out _ HW0.out).mono ?_
      rintro e w1 ⟨rfl, hb1⟩
      have HB1 := hide (HW0.out.trans (hb1.mono HW0.out.size))
      clear hb1
      go_wp2
      go_ret
      exact ⟨ret_eq (by rw [HR.out] <;> rfl), HB1.out⟩
    case inr.inr.inr.inr.inr.inl =>
      have HR : Hid (res = (decide (num = 0) && (decide (x = []) && (decide (nn = 0) && (decide (np = ni) && bu))))) := hide (by rw [HSP.out]; simp)
      clear HSP
      generalize (decide (nn = 0) && (decide (ni = 0) && decide (np = 0))) = eB at *
      by_cases hn0 : num = 0
      case neg =>
        have fn0 : (num == 0) = false := by simpa using hn0
        rw [decide_eq_false hn0] at HR
        clear hn0
        go_wp2
        go_ret
        exact ⟨ret_eq (by rw [HR.out]; rfl), HW0.out⟩
      have fn0 : (num == 0) = true := by simp [hn0]
      rw [decide_eq_true hn0, Bool.true_and] at HR
      clear hn0
      by_cases hsE : x = []
      case neg =>
        have fsE : (x == []) = false := by simpa using hsE
        rw [decide_eq_false hsE] at HR
        clear hsE
        go_wp2
        go_ret
        exact ⟨ret_eq (by rw [HR.out]; rfl), HW0.out⟩
      have fsE : (x == []) = true := by simp [hsE]
      rw [decide_eq_true hsE, Bool.true_and] at HR
      clear hsE
      by_cases hnE : nn = 0
      case neg =>
        have fnE : ((nn : Int) == 0) = false := by simpa using hnE
        rw [decide_eq_false hnE] at HR
        clear hnE
        go_wp2
        go_ret
        exact ⟨ret_eq (by rw [HR.out]; rfl), HW0.out⟩
      have fnE : ((nn : Int) == 0) = true := by simp [hnE]
      rw [decide_eq_true hnE, Bool.true_and] at HR
      clear hnE
      by_cases hpi : np = ni
      case neg =>
        have fpi : ((np : Int) == (ni : Int)) = false := by simp; omega
        rw [decide_eq_false hpi] at HR
        clear hpi
        go_wp2
        go_ret
        exact ⟨ret_eq (by rw [HR.out]; rfl), HW0.out⟩
      have fpi : ((np : Int) == (ni : Int)) = true := by simp [hpi]
      rw [decide_eq_true hpi, Bool.true_and] at HR
      clear hpi
      go_wp2_with fail
      refine (HCU.out _ HW0.out).mono ?_
      rintro e w1 ⟨rfl, rfl⟩
      go_wp2
      go_ret
      exact ⟨ret_eq (by rw [HR.out] <;> rfl), HW0.out⟩
end Go.Proofs.Ytpnjkebjdclkfaa
