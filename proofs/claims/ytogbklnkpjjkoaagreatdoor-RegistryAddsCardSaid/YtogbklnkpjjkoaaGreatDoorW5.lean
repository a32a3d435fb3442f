/- Texts of a proof, part 5. Conditions: none. -/
import Derived.Test.YtogbklnkpjjkoaaGreatDoorW4
import Derived.Test.YtogbklnkpjjkoaaGreatDoorProg
import Derived.KernelRfl
import Derived.Test.YtogbklnkpjjkoaaGreatDoorRows
import Derived.ChangeSame
import Derived.ChangeVars
import Derived.JoinedOf
import Derived.LaidLaws
import Derived.LaidHandle
import Derived.Stop.Joined
set_option linter.unusedVariables false
set_option linter.unusedSimpArgs false
namespace Go.Proofs.YtogbklnkpjjkoaaGreatDoor

theorem tyE {α:Type} {a b:α} (h:a=b):a=b:=h
@[go_sem] theorem ty_1:okT Tryz.prog 3=true∧szOf Tryz.prog 3=1∧aggT Tryz.prog 3=false∧(Tryz.prog.info? 3).isSome=true∧zeroT Tryz.prog 3=true∧okT Tryz.prog 4=true∧szOf Tryz.prog 4=1∧aggT Tryz.prog 4=false∧(Tryz.prog.info? 4).isSome=true∧okT Tryz.prog 5=true∧szOf Tryz.prog 5=1∧aggT Tryz.prog 5=false:=by and_intros <;> kernel_rfl
@[go_sem] theorem strT_9:strT Tryz.prog 9=true:=tyE (by kernel_rfl)
@[go_sem] theorem bul_9 (s:ByteArray) (ty:TypeId) (cs:Array Bool):dbuiltin Tryz.prog .len #[9] ty cs [.v (.string s)]=some (True,.v (.int .i64 s.size)):=bu_slen s _ ty cs strT_9
@[go_sem] theorem elT_22:elT Tryz.prog 22=some 9:=tyE (by kernel_rfl)
@[go_sem] theorem bul_22 (own:Own) (es:List D) (ty:TypeId) (cs:Array Bool):dbuiltin Tryz.prog .len #[22] ty cs [.sl own es]=some (True,.v (.int .i64 es.length)):=bu_len own es _ ty cs elT_22
@[go_sem] theorem bwl_22 (k off n c:Nat) (ty:TypeId) (cs:Array Bool):dbuiltin Tryz.prog .len #[22] ty cs [.win k off n c]=some (True,.v (.int .i64 n)):=bu_wlen k off n c _ ty cs elT_22
@[go_sem] theorem bwc_22 (k off n c:Nat) (ty:TypeId) (cs:Array Bool):dbuiltin Tryz.prog .cap #[22] ty cs [.win k off n c]=some (True,.v (.int .i64 c)):=bu_wcap k off n c _ ty cs elT_22
@[go_sem] theorem ty_2:okT Tryz.prog 9=true∧szOf Tryz.prog 9=1∧aggT Tryz.prog 9=false∧zeroT Tryz.prog 9=true∧bytesOf Tryz.prog 9=16∧ifaceT Tryz.prog 20=true∧okT Tryz.prog 22=true∧szOf Tryz.prog 22=1∧aggT Tryz.prog 22=false∧(Tryz.prog.info? 22).isSome=true∧okT Tryz.prog 23=true∧szOf Tryz.prog 23=1:=by and_intros <;> kernel_rfl
@[go_sem] theorem elT_23:elT Tryz.prog 23=some 25:=tyE (by kernel_rfl)
@[go_sem] theorem bul_23 (own:Own) (es:List D) (ty:TypeId) (cs:Array Bool):dbuiltin Tryz.prog .len #[23] ty cs [.sl own es]=some (True,.v (.int .i64 es.length)):=bu_len own es _ ty cs elT_23
@[go_sem] theorem bwl_23 (k off n c:Nat) (ty:TypeId) (cs:Array Bool):dbuiltin Tryz.prog .len #[23] ty cs [.win k off n c]=some (True,.v (.int .i64 n)):=bu_wlen k off n c _ ty cs elT_23
@[go_sem] theorem bwc_23 (k off n c:Nat) (ty:TypeId) (cs:Array Bool):dbuiltin Tryz.prog .cap #[23] ty cs [.win k off n c]=some (True,.v (.int .i64 c)):=bu_wcap k off n c _ ty cs elT_23
@[go_sem] theorem ty_3:aggT Tryz.prog 23=false∧(Tryz.prog.info? 23).isSome=true∧okT Tryz.prog 25=true∧szOf Tryz.prog 25=3∧aggT Tryz.prog 25=true∧(Tryz.prog.info? 25).isSome=true∧zeroT Tryz.prog 25=true∧zeroOk Tryz.prog 25=true∧bytesOf Tryz.prog 25=56∧zeroD Tryz.prog 25=[.v (.int .i64 0),.sl .full [],.sl .full []]∧fld Tryz.prog 25 0=some (0,3)∧fld Tryz.prog 25 1=some (1,22):=by and_intros <;> kernel_rfl
noncomputable def pl25:Nat→Option (Nat × Nat):=(placeT Tryz.prog 25).getD fun _=>none
@[go_sem] theorem elT_26:elT Tryz.prog 26=some 69:=tyE (by kernel_rfl)
@[go_sem] theorem bul_26 (own:Own) (es:List D) (ty:TypeId) (cs:Array Bool):dbuiltin Tryz.prog .len #[26] ty cs [.sl own es]=some (True,.v (.int .i64 es.length)):=bu_len own es _ ty cs elT_26
@[go_sem] theorem elT_32:elT Tryz.prog 32=some 49:=tyE (by kernel_rfl)
@[go_sem] theorem bul_32 (own:Own) (es:List D) (ty:TypeId) (cs:Array Bool):dbuiltin Tryz.prog .len #[32] ty cs [.sl own es]=some (True,.v (.int .i64 es.length)):=bu_len own es _ ty cs elT_32
@[go_sem] theorem ty_4:fld Tryz.prog 25 2=some (2,23)∧placeT Tryz.prog 25=some pl25∧pl25 0=some (0,1)∧pl25 1=some (1,1)∧pl25 2=some (2,1)∧okT Tryz.prog 30=true∧szOf Tryz.prog 30=1∧aggT Tryz.prog 30=false∧ptrT Tryz.prog 30=true∧okT Tryz.prog 35=true∧szOf Tryz.prog 35=1∧aggT Tryz.prog 35=false:=by and_intros <;> kernel_rfl
@[go_sem] theorem elT_35:elT Tryz.prog 35=some 39:=tyE (by kernel_rfl)
@[go_sem] theorem bul_35 (own:Own) (es:List D) (ty:TypeId) (cs:Array Bool):dbuiltin Tryz.prog .len #[35] ty cs [.sl own es]=some (True,.v (.int .i64 es.length)):=bu_len own es _ ty cs elT_35
@[go_sem] theorem ty_5:(Tryz.prog.info? 35).isSome=true∧okT Tryz.prog 39=true∧szOf Tryz.prog 39=32∧aggT Tryz.prog 39=true∧(Tryz.prog.info? 39).isSome=true∧zeroT Tryz.prog 39=true∧zeroOk Tryz.prog 39=true∧zeroD Tryz.prog 39=[.v (.int .u8 0),.v (.int .u8 0),.v (.int .u8 0),.v (.int .u8 0),.v (.int .u8 0),.v (.int .u8 0),.v (.int .u8 0),.v (.int .u8 0),.v (.int .u8 0),.v (.int .u8 0),.v (.int .u8 0),.v (.int .u8 0),.v (.int .u8 0),.v (.int .u8 0),.v (.int .u8 0),.v (.int .u8 0),.v (.int .u8 0),.v (.int .u8 0),.v (.int .u8 0),.v (.int .u8 0),.v (.int .u8 0),.v (.int .u8 0),.v (.int .u8 0),.v (.int .u8 0),.v (.int .u8 0),.v (.int .u8 0),.v (.int .u8 0),.v (.int .u8 0),.v (.int .u8 0),.v (.int .u8 0),.v (.int .u8 0),.v (.int .u8 0)]∧okT Tryz.prog 40=true∧szOf Tryz.prog 40=1∧aggT Tryz.prog 40=false∧(Tryz.prog.info? 40).isSome=true:=by and_intros <;> kernel_rfl
@[go_sem] theorem elT_40:elT Tryz.prog 40=some 122:=tyE (by kernel_rfl)
@[go_sem] theorem bul_40 (own:Own) (es:List D) (ty:TypeId) (cs:Array Bool):dbuiltin Tryz.prog .len #[40] ty cs [.sl own es]=some (True,.v (.int .i64 es.length)):=bu_len own es _ ty cs elT_40
@[go_sem] theorem elT_41:elT Tryz.prog 41=some 43:=tyE (by kernel_rfl)
@[go_sem] theorem bul_41 (own:Own) (es:List D) (ty:TypeId) (cs:Array Bool):dbuiltin Tryz.prog .len #[41] ty cs [.sl own es]=some (True,.v (.int .i64 es.length)):=bu_len own es _ ty cs elT_41
@[go_sem] theorem ty_6:okT Tryz.prog 41=true∧szOf Tryz.prog 41=1∧aggT Tryz.prog 41=false∧(Tryz.prog.info? 41).isSome=true∧okT Tryz.prog 43=true∧szOf Tryz.prog 43=6∧aggT Tryz.prog 43=true∧(Tryz.prog.info? 43).isSome=true∧zeroT Tryz.prog 43=true∧zeroOk Tryz.prog 43=true∧bytesOf Tryz.prog 43=104∧zeroD Tryz.prog 43=[.v (.int .i64 0),.v (.int .i64 0),.v (.string ⟨#[]⟩),.sl .full [],.sl .full [],.sl .full []]:=by and_intros <;> kernel_rfl
noncomputable def pl43:Nat→Option (Nat × Nat):=(placeT Tryz.prog 43).getD fun _=>none
@[go_sem] theorem elT_44:elT Tryz.prog 44=some 111:=tyE (by kernel_rfl)
@[go_sem] theorem bul_44 (own:Own) (es:List D) (ty:TypeId) (cs:Array Bool):dbuiltin Tryz.prog .len #[44] ty cs [.sl own es]=some (True,.v (.int .i64 es.length)):=bu_len own es _ ty cs elT_44
@[go_sem] theorem ty_7:fld Tryz.prog 43 0=some (0,3)∧fld Tryz.prog 43 1=some (1,3)∧fld Tryz.prog 43 2=some (2,9)∧fld Tryz.prog 43 3=some (3,22)∧fld Tryz.prog 43 4=some (4,40)∧fld Tryz.prog 43 5=some (5,41)∧placeT Tryz.prog 43=some pl43∧okT Tryz.prog 44=true∧szOf Tryz.prog 44=1∧aggT Tryz.prog 44=false∧(Tryz.prog.info? 44).isSome=true∧okT Tryz.prog 45=true:=by and_intros <;> kernel_rfl
@[go_sem] theorem elT_45:elT Tryz.prog 45=some 47:=tyE (by kernel_rfl)
@[go_sem] theorem bul_45 (own:Own) (es:List D) (ty:TypeId) (cs:Array Bool):dbuiltin Tryz.prog .len #[45] ty cs [.sl own es]=some (True,.v (.int .i64 es.length)):=bu_len own es _ ty cs elT_45
@[go_sem] theorem ty_8:szOf Tryz.prog 45=1∧aggT Tryz.prog 45=false∧(Tryz.prog.info? 45).isSome=true∧okT Tryz.prog 47=true∧szOf Tryz.prog 47=20∧aggT Tryz.prog 47=true∧(Tryz.prog.info? 47).isSome=true∧zeroT Tryz.prog 47=true∧zeroOk Tryz.prog 47=true∧zeroD Tryz.prog 47=[.v (.int .i64 0),.v (.string ⟨#[]⟩),.v (.string ⟨#[]⟩),.v (.int .i64 0),.sl .full [],.sl .full [],.v (.int .i64 0),.v (.int .i64 0),.v (.string ⟨#[]⟩),.sl .full [],.sl .full [],.sl .full [],.v (.int .i64 0),.v (.int .i64 0),.v (.string ⟨#[]⟩),.sl .full [],.sl .full [],.sl .full [],.sl .full [],.sl .full []]∧fld Tryz.prog 47 0=some (0,3)∧fld Tryz.prog 47 1=some (1,9):=by and_intros <;> kernel_rfl
noncomputable def pl47:Nat→Option (Nat × Nat):=(placeT Tryz.prog 47).getD fun _=>none
@[go_sem] theorem ty_9:fld Tryz.prog 47 2=some (2,9)∧fld Tryz.prog 47 3=some (3,25)∧fld Tryz.prog 47 4=some (6,43)∧fld Tryz.prog 47 5=some (12,43)∧fld Tryz.prog 47 6=some (18,44)∧fld Tryz.prog 47 7=some (19,45)∧placeT Tryz.prog 47=some pl47∧pl47 0=some (0,1)∧pl47 1=some (1,1)∧okT Tryz.prog 49=true∧szOf Tryz.prog 49=87∧aggT Tryz.prog 49=true:=by and_intros <;> kernel_rfl
noncomputable def pl49:Nat→Option (Nat × Nat):=(placeT Tryz.prog 49).getD fun _=>none
@[go_sem] theorem ty_10:(Tryz.prog.info? 49).isSome=true∧zeroT Tryz.prog 49=true∧zeroOk Tryz.prog 49=true∧zeroD Tryz.prog 49=[.v (.int .u8 0),.v (.int .u8 0),.v (.int .u8 0),.v (.int .u8 0),.v (.int .u8 0),.v (.int .u8 0),.v (.int .u8 0),.v (.int .u8 0),.v (.int .u8 0),.v (.int .u8 0),.v (.int .u8 0),.v (.int .u8 0),.v (.int .u8 0),.v (.int .u8 0),.v (.int .u8 0),.v (.int .u8 0),.v (.int .u8 0),.v (.int .u8 0),.v (.int .u8 0),.v (.int .u8 0),.v (.int .u8 0),.v (.int .u8 0),.v (.int .u8 0),.v (.int .u8 0),.v (.int .u8 0),.v (.int .u8 0),.v (.int .u8 0),.v (.int .u8 0),.v (.int .u8 0),.v (.int .u8 0),.v (.int .u8 0),.v (.int .u8 0),.v (.int .u8 0),.v (.int .u8 0),.v (.int .u8 0),.v (.int .u8 0),.v (.int .u8 0),.v (.int .u8 0),.v (.int .u8 0),.v (.int .u8 0),.v (.int .u8 0),.v (.int .u8 0),.v (.int .u8 0),.v (.int .u8 0),.v (.int .u8 0),.v (.int .u8 0),.v (.int .u8 0),.v (.int .u8 0),.v (.int .u8 0),.v (.int .u8 0),.v (.int .u8 0),.v (.int .u8 0),.v (.int .u8 0),.v (.int .u8 0),.v (.int .u8 0),.v (.int .u8 0),.v (.int .u8 0),.v (.int .u8 0),.v (.int .u8 0),.v (.int .u8 0),.v (.int .u8 0),.v (.int .u8 0),.v (.int .u8 0),.v (.int .u8 0),.v (.int .i64 0),.v (.string ⟨#[]⟩),.v (.string ⟨#[]⟩),.v (.int .i64 0),.sl .full [],.sl .full [],.v (.int .i64 0),.v (.int .i64 0),.v (.string ⟨#[]⟩),.sl .full [],.sl .full [],.sl .full [],.v (.int .i64 0),.v (.int .i64 0),.v (.string ⟨#[]⟩),.sl .full [],.sl .full [],.sl .full [],.sl .full [],.sl .full [],.v (.int .i64 0),.sl .full [],.sl .full []]∧fld Tryz.prog 49 0=some (0,39)∧fld Tryz.prog 49 1=some (32,39)∧fld Tryz.prog 49 2=some (64,47)∧fld Tryz.prog 49 3=some (84,25)∧placeT Tryz.prog 49=some pl49∧pl49 0=some (0,32)∧pl49 1=some (32,32)∧pl49 2=some (64,20):=by and_intros <;> kernel_rfl
@[go_sem] theorem elT_52:elT Tryz.prog 52=some 59:=tyE (by kernel_rfl)
@[go_sem] theorem bul_52 (own:Own) (es:List D) (ty:TypeId) (cs:Array Bool):dbuiltin Tryz.prog .len #[52] ty cs [.sl own es]=some (True,.v (.int .i64 es.length)):=bu_len own es _ ty cs elT_52
@[go_sem] theorem ty_11:pl49 3=some (84,3)∧okT Tryz.prog 52=true∧szOf Tryz.prog 52=1∧aggT Tryz.prog 52=false∧(Tryz.prog.info? 52).isSome=true∧zeroOk Tryz.prog 52=true∧zeroD Tryz.prog 52=[.sl .full []]∧okT Tryz.prog 59=true∧szOf Tryz.prog 59=65∧aggT Tryz.prog 59=true∧zeroT Tryz.prog 59=true∧zeroOk Tryz.prog 59=true:=by and_intros <;> kernel_rfl
noncomputable def pl59:Nat→Option (Nat × Nat):=(placeT Tryz.prog 59).getD fun _=>none
@[go_sem] theorem ty_12:zeroD Tryz.prog 59=[.v (.int .u8 0),.v (.int .u8 0),.v (.int .u8 0),.v (.int .u8 0),.v (.int .u8 0),.v (.int .u8 0),.v (.int .u8 0),.v (.int .u8 0),.v (.int .u8 0),.v (.int .u8 0),.v (.int .u8 0),.v (.int .u8 0),.v (.int .u8 0),.v (.int .u8 0),.v (.int .u8 0),.v (.int .u8 0),.v (.int .u8 0),.v (.int .u8 0),.v (.int .u8 0),.v (.int .u8 0),.v (.int .u8 0),.v (.int .u8 0),.v (.int .u8 0),.v (.int .u8 0),.v (.int .u8 0),.v (.int .u8 0),.v (.int .u8 0),.v (.int .u8 0),.v (.int .u8 0),.v (.int .u8 0),.v (.int .u8 0),.v (.int .u8 0),.v (.int .u8 0),.v (.int .u8 0),.v (.int .u8 0),.v (.int .u8 0),.v (.int .u8 0),.v (.int .u8 0),.v (.int .u8 0),.v (.int .u8 0),.v (.int .u8 0),.v (.int .u8 0),.v (.int .u8 0),.v (.int .u8 0),.v (.int .u8 0),.v (.int .u8 0),.v (.int .u8 0),.v (.int .u8 0),.v (.int .u8 0),.v (.int .u8 0),.v (.int .u8 0),.v (.int .u8 0),.v (.int .u8 0),.v (.int .u8 0),.v (.int .u8 0),.v (.int .u8 0),.v (.int .u8 0),.v (.int .u8 0),.v (.int .u8 0),.v (.int .u8 0),.v (.int .u8 0),.v (.int .u8 0),.v (.int .u8 0),.v (.int .u8 0),.v (.bool false)]∧placeT Tryz.prog 59=some pl59∧pl59 0=some (0,32)∧pl59 1=some (32,32)∧pl59 2=some (64,1)∧ifaceT Tryz.prog 66=true∧okT Tryz.prog 69=true∧szOf Tryz.prog 69=53∧fld Tryz.prog 69 0=some (0,5)∧fld Tryz.prog 69 1=some (1,39)∧fld Tryz.prog 69 2=some (33,47)∧okT Tryz.prog 78=true:=by and_intros <;> kernel_rfl
@[go_sem] theorem elT_78:elT Tryz.prog 78=some 3:=tyE (by kernel_rfl)
@[go_sem] theorem bul_78 (own:Own) (es:List D) (ty:TypeId) (cs:Array Bool):dbuiltin Tryz.prog .len #[78] ty cs [.sl own es]=some (True,.v (.int .i64 es.length)):=bu_len own es _ ty cs elT_78
@[go_sem] theorem elT_92:elT Tryz.prog 92=some 99:=tyE (by kernel_rfl)
@[go_sem] theorem bwl_92 (k off n c:Nat) (ty:TypeId) (cs:Array Bool):dbuiltin Tryz.prog .len #[92] ty cs [.win k off n c]=some (True,.v (.int .i64 n)):=bu_wlen k off n c _ ty cs elT_92
@[go_sem] theorem ty_13:szOf Tryz.prog 78=1∧aggT Tryz.prog 78=false∧(Tryz.prog.info? 78).isSome=true∧zeroOk Tryz.prog 78=true∧zeroD Tryz.prog 78=[.sl .full []]∧okT Tryz.prog 92=true∧szOf Tryz.prog 92=1∧aggT Tryz.prog 92=false∧(Tryz.prog.info? 92).isSome=true∧okT Tryz.prog 93=true∧szOf Tryz.prog 93=1∧aggT Tryz.prog 93=false:=by and_intros <;> kernel_rfl
noncomputable def pl95:Nat→Option (Nat × Nat):=(placeT Tryz.prog 95).getD fun _=>none
@[go_sem] theorem ty_14:zeroOk Tryz.prog 95=true∧zeroD Tryz.prog 95=[.sl .full [],.sl .full [],.v (.map none)]∧fld Tryz.prog 95 0=some (0,35)∧fld Tryz.prog 95 1=some (1,92)∧fld Tryz.prog 95 2=some (2,93)∧placeT Tryz.prog 95=some pl95∧pl95 2=some (2,1)∧okT Tryz.prog 99=true∧szOf Tryz.prog 99=25∧aggT Tryz.prog 99=true∧(Tryz.prog.info? 99).isSome=true∧zeroT Tryz.prog 99=true:=by and_intros <;> kernel_rfl
noncomputable def pl99:Nat→Option (Nat × Nat):=(placeT Tryz.prog 99).getD fun _=>none
@[go_sem] theorem ty_15:zeroOk Tryz.prog 99=true∧zeroD Tryz.prog 99=[.v (.int .i64 0),.v (.int .i64 0),.v (.string ⟨#[]⟩),.v (.string ⟨#[]⟩),.v (.int .i64 0),.sl .full [],.sl .full [],.v (.int .i64 0),.v (.int .i64 0),.v (.string ⟨#[]⟩),.sl .full [],.sl .full [],.sl .full [],.v (.int .i64 0),.v (.int .i64 0),.v (.string ⟨#[]⟩),.sl .full [],.sl .full [],.sl .full [],.sl .full [],.sl .full [],.v (.int .i64 0),.sl .full [],.sl .full [],.sl .full []]∧fld Tryz.prog 99 0=some (0,3)∧fld Tryz.prog 99 1=some (1,47)∧fld Tryz.prog 99 2=some (21,25)∧fld Tryz.prog 99 3=some (24,78)∧placeT Tryz.prog 99=some pl99∧pl99 0=some (0,1)∧pl99 1=some (1,20)∧pl99 2=some (21,3)∧okT Tryz.prog 104=true∧szOf Tryz.prog 104=1:=by and_intros <;> kernel_rfl
@[go_sem] theorem ty_16:aggT Tryz.prog 104=false∧(Tryz.prog.underlying 104).isSome=true∧ifaceT Tryz.prog 104=false∧zeroOk Tryz.prog 104=true∧zeroD Tryz.prog 104=[.v (.int .i64 0)]∧okT Tryz.prog 111=true∧szOf Tryz.prog 111=12∧aggT Tryz.prog 111=true∧(Tryz.prog.info? 111).isSome=true∧zeroT Tryz.prog 111=true∧zeroOk Tryz.prog 111=true∧zeroD Tryz.prog 111=[.v (.int .i64 0),.v (.int .i64 0),.v (.string ⟨#[]⟩),.sl .full [],.sl .full [],.sl .full [],.v (.int .i64 0),.v (.int .i64 0),.v (.string ⟨#[]⟩),.sl .full [],.sl .full [],.sl .full []]:=by and_intros <;> kernel_rfl
noncomputable def pl111:Nat→Option (Nat × Nat):=(placeT Tryz.prog 111).getD fun _=>none
@[go_sem] theorem ty_17:fld Tryz.prog 111 0=some (0,43)∧fld Tryz.prog 111 1=some (6,43)∧placeT Tryz.prog 111=some pl111∧pl111 0=some (0,6)∧pl111 1=some (6,6)∧(Tryz.prog.underlying 114).isSome=true∧ifaceT Tryz.prog 114=false∧elT Tryz.prog 116=some 4∧okT Tryz.prog 122=true∧szOf Tryz.prog 122=1∧aggT Tryz.prog 122=false∧zeroT Tryz.prog 122=true:=by and_intros <;> kernel_rfl
@[go_sem] theorem ty_18:bytesOf Tryz.prog 122=8∧okT Tryz.prog 128=true∧szOf Tryz.prog 128=3∧aggT Tryz.prog 128=true∧(Tryz.prog.info? 128).isSome=true∧zeroOk Tryz.prog 128=true∧zeroD Tryz.prog 128=[.v (.pointer none),.v (.pointer none),.v (.int .u64 0)]∧okT Tryz.prog 131=true∧aggT Tryz.prog 131=false∧okT Tryz.prog 173=true∧szOf Tryz.prog 173=4∧aggT Tryz.prog 173=true:=by and_intros <;> kernel_rfl
noncomputable def pl173:Nat→Option (Nat × Nat):=(placeT Tryz.prog 173).getD fun _=>none
@[go_sem] theorem ty_19:(Tryz.prog.info? 173).isSome=true∧zeroOk Tryz.prog 173=true∧zeroD Tryz.prog 173=[.v (.bool false),.v (.bool false),.v (.bool false),.v (.bool false)]∧fld Tryz.prog 173 0=some (0,4)∧fld Tryz.prog 173 1=some (1,4)∧fld Tryz.prog 173 2=some (2,4)∧fld Tryz.prog 173 3=some (3,4)∧placeT Tryz.prog 173=some pl173∧pl173 0=some (0,1)∧pl173 1=some (1,1)∧pl173 2=some (2,1)∧pl173 3=some (3,1):=by and_intros <;> kernel_rfl
theorem mixed:Tryz.prog.follows .mixedOrders=true:=by kernel_rfl
end Go.Proofs.YtogbklnkpjjkoaaGreatDoor
namespace Go.Proofs.YtogbklnkpjjkoaaGreatDoor
open Go.RowKit

def strD (s:Str):D:=.v (sv s)
def u64D (n:Nat):D:=.v (.int .u64 (n:Int))
mutual
def encS:DSch→D
 | .mk k ws ps=>.agg [.v (.int .i64 k),.sl .no (ws.map strD),.sl .no (encSs ps)]
def encSs:List DSch→List D
 | []=>[]
 | p::ps=>encS p::encSs ps
end
mutual
def encV:DVal→D
 | .mk k n s ns is ps=>.agg [.v (.int .i64 k),.v (.int .i64 n),strD s,.sl .no (ns.map strD),.sl .no (is.map u64D),.sl .no (encVs ps)]
def encVs:List DVal→List D
 | []=>[]
 | p::ps=>encV p::encVs ps
end
theorem encSs_map:∀ l:List DSch,encSs l=l.map encS
 | []=>rfl
 | p::l=>by simp [encSs,encSs_map l]
theorem encVs_map:∀ l:List DVal,encVs l=l.map encV
 | []=>rfl
 | p::l=>by simp [encVs,encVs_map l]
theorem encS_eq (s:DSch):encS s=.agg [.v (.int .i64 s.kind),.sl .no (s.words.map strD),.sl .no (s.parts.map encS)]:=by
 obtain ⟨k,ws,ps⟩:=s
 simp [encS,encSs_map,DSch.kind,DSch.words,DSch.parts]
theorem encV_eq (v:DVal):encV v=.agg [.v (.int .i64 v.kind),.v (.int .i64 v.n),strD v.s,.sl .no (v.names.map strD),.sl .no (v.ids.map u64D),.sl .no (v.parts.map encV)]:=by
 obtain ⟨k,n,s,ns,is,ps⟩:=v
 simp [encV,encVs_map,DVal.kind,DVal.n,DVal.s,DVal.names,DVal.ids,DVal.parts]
theorem closed_strs (l:List Str):allL (fun _=>False) (l.map strD):=allL_iff.2 fun d hd=>by
 obtain ⟨s,_,rfl⟩:=List.mem_map.1 hd
 trivial
theorem closed_u64s (l:List Nat):allL (fun _=>False) (l.map u64D):=allL_iff.2 fun d hd=>by
 obtain ⟨s,_,rfl⟩:=List.mem_map.1 hd
 trivial
mutual
theorem closed_encS:∀ s:DSch,(encS s).closed
 | .mk k ws ps=>by simp only [encS,D.closed,D.all,allL,Own.all];exact ⟨trivial,⟨trivial,closed_strs ws⟩,⟨trivial,closed_encSs ps⟩,trivial⟩
theorem closed_encSs:∀ l:List DSch,allL (fun _=>False) (encSs l)
 | []=>trivial
 | p::ps=>by simp only [encSs,allL];exact ⟨closed_encS p,closed_encSs ps⟩
end
mutual
theorem closed_encV:∀ v:DVal,(encV v).closed
 | .mk k n s ns is ps=>by simp only [encV,D.closed,D.all,allL,Own.all,strD];exact ⟨trivial,trivial,trivial,⟨trivial,closed_strs ns⟩,⟨trivial,closed_u64s is⟩,⟨trivial,closed_encVs ps⟩,trivial⟩
theorem closed_encVs:∀ l:List DVal,allL (fun _=>False) (encVs l)
 | []=>trivial
 | p::ps=>by simp only [encVs,allL];exact ⟨closed_encV p,closed_encVs ps⟩
end
theorem frz_strs (l:List Str):frzL (l.map strD)=l.map strD:=by simp [frzL_map,strD,D.frz,Function.comp_def]
theorem frz_u64s (l:List Nat):frzL (l.map u64D)=l.map u64D:=by simp [frzL_map,u64D,D.frz,Function.comp_def]
mutual
theorem frz_encS:∀ s:DSch,(encS s).frz=encS s
 | .mk k ws ps=>by simp only [encS,D.frz,frzL,frz_strs,frz_encSs ps]
theorem frz_encSs:∀ l:List DSch,frzL (encSs l)=encSs l
 | []=>rfl
 | p::ps=>by simp only [encSs,frzL,frz_encS p,frz_encSs ps]
end
mutual
theorem frz_encV:∀ v:DVal,(encV v).frz=encV v
 | .mk k n s ns is ps=>by simp only [encV,D.frz,frzL,frz_strs,frz_u64s,frz_encVs ps,strD]
theorem frz_encVs:∀ l:List DVal,frzL (encVs l)=encVs l
 | []=>rfl
 | p::ps=>by simp only [encVs,frzL,frz_encV p,frz_encVs ps]
end
theorem frz_mapV (l:List DVal):frzL (l.map encV)=l.map encV:=by rw [← encVs_map,frz_encVs]
theorem frz_mapS (l:List DSch):frzL (l.map encS)=l.map encS:=by rw [← encSs_map,frz_encSs]

/-! What fits the machine's bounds. -/
mutual
def okS:DSch→Prop
 | .mk k ws ps=>I64 k∧(∀ s∈ws,s.length≤maxLen)∧ws.length≤140737488351232∧ps.length≤140737488351232∧okSs ps
def okSs:List DSch→Prop
 | []=>True
 | p::ps=>okS p∧okSs ps
end
mutual
def okV:DVal→Prop
 | .mk k n s ns is ps=>I64 k∧I64 n∧s.length≤maxLen∧(∀ s∈ns,s.length≤maxLen)∧ns.length≤140737488351232∧(∀ i∈is,U64 (i:Int))∧is.length≤140737488351232∧ps.length≤140737488351232∧okVs ps
def okVs:List DVal→Prop
 | []=>True
 | p::ps=>okV p∧okVs ps
end
theorem okSs_iff:∀ {l:List DSch},okSs l↔∀ p∈l,okS p
 | []=>by simp [okSs]
 | p::l=>by simp [okSs,okSs_iff (l:=l)]
theorem okVs_iff:∀ {l:List DVal},okVs l↔∀ p∈l,okV p
 | []=>by simp [okVs]
 | p::l=>by simp [okVs,okVs_iff (l:=l)]
theorem okS_eq (s:DSch):okS s↔I64 s.kind∧(∀ x∈s.words,x.length≤maxLen)∧s.words.length≤140737488351232∧s.parts.length≤140737488351232∧∀ p∈s.parts,okS p:=by
 obtain ⟨k,ws,ps⟩:=s
 simp only [okS,okSs_iff,DSch.kind,DSch.words,DSch.parts]
theorem okV_eq (v:DVal):okV v↔I64 v.kind∧I64 v.n∧v.s.length≤maxLen∧(∀ x∈v.names,x.length≤maxLen)∧v.names.length≤140737488351232∧(∀ i∈v.ids,U64 (i:Int))∧v.ids.length≤140737488351232∧v.parts.length≤140737488351232∧∀ p∈v.parts,okV p:=by
 obtain ⟨k,n,s,ns,is,ps⟩:=v
 simp only [okV,okVs_iff,DVal.kind,DVal.n,DVal.s,DVal.names,DVal.ids,DVal.parts]
theorem IsSch.ok {w:World} {F:Nat→Prop} {s:DSch} {cs:List Value} (h:IsSch w F s cs):okS s:=by
 induction h with
 | mk h1 h2 h3 h4 h5 hA hC hP h6 h7 ih =>
  simp only [okS,okSs_iff]
  refine ⟨h1,h3,h5,h7,fun p hp=>?_⟩
  obtain ⟨i,hi,rfl⟩:=List.getElem_of_mem hp
  exact ih i _ (List.getElem?_eq_getElem hi)
theorem IsVal.ok {w:World} {F:Nat→Prop} {v:DVal} {cs:List Value} (h:IsVal w F v cs):okV v:=by
 induction h with
 | mk h1 h2 h3 h4 h5 h6 h7 h8 h9 h10 h11 hA hC hP h12 h13 ih =>
  simp only [okV,okVs_iff]
  refine ⟨h1,h2,h3,h5,h7,h9,h11,h13,fun p hp=>?_⟩
  obtain ⟨i,hi,rfl⟩:=List.getElem_of_mem hp
  exact ih i _ (List.getElem?_eq_getElem hi)

section
variable {P : Program} {w : World} {η : Names} {X : Nat → Nat → Prop}
theorem rep_scalars {F:Nat→Prop} {α:Type} (g:α→Value) (h1:∀ a,(g a).oneCell'=true) (hX:∀ b i,F b→X b i) {A:Option Addr} {c:Nat} {l:List α} (h:RF w F 1 A l.length (l.map g)) (hc:l.length≤c) (hn:l.length≤140737488351232) :
  Rep P w η X (.sl .no (l.map fun a=>.v (g a))) (.slice A l.length c):=by
 simp only [Rep]
 refine ⟨A,c,by rw [List.length_map],by rw [List.length_map];exact hc,by rw [List.length_map];omega,trivial,fun h0=>?_⟩
 rw [List.length_map] at h0
 obtain ⟨b,o,e,hb,hr⟩:=h.2 h0
 refine ⟨b,o,1,e,by omega,RepE.mk fun i d hd=>?_⟩
 rw [List.getElem?_map] at hd
 cases hi:l[i]? with
 | none=>rw [hi] at hd;cases hd
 | some a =>
  rw [hi] at hd
  injection hd with hd
  subst hd
  have hcell:=hr i (g a) (by rw [List.getElem?_map,hi];rfl)
  rw [Nat.mul_one]
  exact ⟨by simp only [RepA],fun _=>⟨rfl,hX _ _ hb,g a,hcell,h1 a,by simp only [Rep]⟩⟩
theorem rep_structs {F:Nat→Prop} {α:Type} (e:α→D) (z:Nat) (hz:0<z) (hX:∀ b i,F b→X b i) {A:Option Addr} {c b o:Nat} {l:List α} {C:Nat→List Value} (hA:0<l.length→A=some ⟨b,o,none⟩∧F b)
  (hC:∀ i a,l[i]? = some a→(C i).length=z∧w.rangeAt b (o+i * z) (C i)) (hR:∀ i a,l[i]? = some a→Rep P w η X (e a) (.agg (C i).toArray)) (hagg:∀ a,(e a).isAgg=true) (hc:l.length≤c) (hn:l.length≤140737488351232) :
  Rep P w η X (.sl .no (l.map e)) (.slice A l.length c):=by
 simp only [Rep]
 refine ⟨A,c,by rw [List.length_map],by rw [List.length_map];exact hc,by rw [List.length_map];omega,trivial,fun h0=>?_⟩
 rw [List.length_map] at h0
 refine ⟨b,o,z,(hA h0).1,hz,RepE.mk fun i d hd=>?_⟩
 rw [List.getElem?_map] at hd
 cases hi:l[i]? with
 | none=>rw [hi] at hd;cases hd
 | some a =>
  rw [hi] at hd
  injection hd with hd
  subst hd
  have h1:=hR i a hi
  obtain ⟨h2,h3⟩:=hC i a hi
  cases he:e a with
  | agg ds =>
   rw [he] at h1
   simp only [Rep] at h1
   obtain ⟨vs,h4,h5,h6⟩:=h1
   have:C i=vs:=by
    injection h4 with h4
    have:=congrArg Array.toList h4
    simpa using this
   rw [this] at h2 h3
   have hlen:ds.length=z:=by rw [← h5.length,h2]
   exact ⟨by simp only [RepA];exact ⟨hlen,RepC.mk h5 h3 (fun j _=>hX _ _ (hA h0).2) h6⟩,fun h=>by simp [D.isAgg] at h⟩
  | _=>have:=hagg a;rw [he] at this;simp [D.isAgg] at this
theorem encS_agg (s:DSch):(encS s).isAgg=true:=by rw [encS_eq];rfl
theorem encV_agg (v:DVal):(encV v).isAgg=true:=by rw [encV_eq];rfl
theorem rep_sch {F:Nat→Prop} (hX:∀ b i,F b→X b i) {s:DSch} {cs:List Value} (h:IsSch w F s cs):Rep P w η X (encS s) (.agg cs.toArray):=by
 induction h with
 | mk h1 h2 h3 h4 h5 hA hC hP h6 h7 ih =>
  have r1:=rep_scalars (P:=P) (η:=η) sv (fun _=>rfl) hX h2 h4 h5
  have r2:=rep_structs (P:=P) (η:=η) encS 3 (by omega) hX hA hC ih encS_agg h6 h7
  simp only [encS,encSs_map,Rep,RepL]
  refine ⟨_,rfl,⟨_,_,rfl,rfl,_,_,rfl,r1,_,_,rfl,r2,rfl⟩,by simp [Value.oneCell']⟩
theorem rep_val {F:Nat→Prop} (hX:∀ b i,F b→X b i) {v:DVal} {cs:List Value} (h:IsVal w F v cs):Rep P w η X (encV v) (.agg cs.toArray):=by
 induction h with
 | mk h1 h2 h3 h4 h5 h6 h7 h8 h9 h10 h11 hA hC hP h12 h13 ih =>
  have r1:=rep_scalars (P:=P) (η:=η) sv (fun _=>rfl) hX h4 h6 h7
  have r2:=rep_scalars (P:=P) (η:=η) uv (fun _=>rfl) hX h8 h10 h11
  have r3:=rep_structs (P:=P) (η:=η) encV 6 (by omega) hX hA hC ih encV_agg h12 h13
  simp only [encV,encVs_map,strD,Rep,RepL]
  refine ⟨_,rfl,⟨_,_,rfl,rfl,_,_,rfl,rfl,_,_,rfl,rfl,_,_,rfl,r1,_,_,rfl,r2,_,_,rfl,r3,rfl⟩,by simp [Value.oneCell']⟩
theorem scalars_of_rep {α:Type} (g:α→Value) {own:Own} {l:List α} {y:Value} (h:Rep P w η X (.sl own (l.map fun a=>.v (g a))) y):∃ A c,y=.slice A l.length c∧l.length≤c∧RF w (·<w.heap.size) 1 A l.length (l.map g):=by
 simp only [Rep] at h
 obtain ⟨A,c,rfl,h1,_,_,h2⟩:=h
 rw [List.length_map] at *
 refine ⟨A,c,rfl,h1,by simp,fun h0=>?_⟩
 obtain ⟨b,o,z,rfl,hz,hr⟩:=h2 h0
 have hel:∀ j a,l[j]? = some a→w.cell? ⟨b,o+j,none⟩=some (g a):=fun j a hj=>by
  have:=RepE.get j hr (d:=.v (g a)) (by rw [List.getElem?_map,hj];rfl)
  obtain ⟨e1,_,x,e2,_,e3⟩:=this.2 rfl
  simp only [Rep] at e3
  rw [e1,Nat.mul_one] at e2
  rw [e2,e3]
 refine ⟨b,o,rfl,?_,fun j u hu=>?_⟩
 ·have h3:=hel 0 _ (List.getElem?_eq_getElem h0)
  exact World.block_lt_of_cell? w _ h3
 ·rw [List.getElem?_map] at hu
  cases hj:l[j]? with
  | none=>rw [hj] at hu;cases hu
  | some a =>
   rw [hj] at hu
   injection hu with hu
   rw [← hu]
   exact hel j a hj
theorem structs_of_rep {α:Type} (e:α→D) (hagg:∀ a,(e a).isAgg=true) {own:Own} {l:List α} {y:Value} {z:Nat} (hw:∀ a,(e a).width=z) (hz:0<z) (h:Rep P w η X (.sl own (l.map e)) y) :
  ∃ A c b o,∃ C:Nat→List Value,y=.slice A l.length c∧l.length≤c∧(0<l.length→A=some ⟨b,o,none⟩∧b<w.heap.size)∧(∀ i a,l[i]? = some a→(C i).length=z∧w.rangeAt b (o+i * z) (C i))∧∀ i a,l[i]? = some a→Rep P w η X (e a) (.agg (C i).toArray):=by
 simp only [Rep] at h
 obtain ⟨A,c,rfl,h1,_,_,h2⟩:=h
 rw [List.length_map] at *
 rcases Nat.eq_zero_or_pos l.length with h0 | h0
 ·have:l=[]:=List.eq_nil_of_length_eq_zero h0
  subst this
  exact ⟨A,c,0,0,fun _=>[],rfl,h1,fun h=>absurd h (by simp),fun i a ha=>by simp at ha,fun i a ha=>by simp at ha⟩
 obtain ⟨b,o,z',rfl,hz',hr⟩:=h2 h0
 have key:∀ i,i<l.length→∃ vs:List Value,vs.length=z∧w.rangeAt b (o+i * z) vs∧∀ a,l[i]? = some a→Rep P w η X (e a) (.agg vs.toArray):=fun i hi=>by
  have hel:=(RepE.get i hr (d:=e l[i]) (by rw [List.getElem?_map,List.getElem?_eq_getElem hi];rfl)).cells
  have hzz:z'=z:=by rw [← hel.1,hw]
  subst hzz
  obtain ⟨vs,k1,k2,k3,k4⟩:=hel.2.range
  refine ⟨vs,by rw [k1];exact hel.1,k2,fun a ha=>?_⟩
  rw [List.getElem?_eq_getElem hi] at ha
  injection ha with ha
  subst ha
  have hg:=hagg l[i]
  revert k3 hg
  cases e l[i] with
  | agg ds=>intro k3 _;simp only [Rep];exact ⟨vs,rfl,k3,k4⟩
  | _=>intro _ hg;simp [D.isAgg] at hg
 refine ⟨_,c,b,o,fun i=>if hi:i<l.length then Classical.choose (key i hi) else [],rfl,h1,fun _=>⟨rfl,?_⟩,fun i a ha=>?_,fun i a ha=>?_⟩
 ·have hk:=Classical.choose_spec (key 0 h0)
  have:=hk.2.1 0 (Classical.choose (key 0 h0))[0] (List.getElem?_eq_getElem (by rw [hk.1];exact hz))
  exact World.block_lt_of_cell? w _ this
 ·have hi:i<l.length:=(List.getElem?_eq_some_iff.1 ha).1
  dsimp only
  rw [dif_pos hi]
  have hk:=Classical.choose_spec (key i hi)
  exact ⟨hk.1,hk.2.1⟩
 ·have hi:i<l.length:=(List.getElem?_eq_some_iff.1 ha).1
  dsimp only
  rw [dif_pos hi]
  exact (Classical.choose_spec (key i hi)).2.2 a ha
theorem width_encS (s:DSch):(encS s).width=3:=by rw [encS_eq];rfl
theorem width_encV (v:DVal):(encV v).width=6:=by rw [encV_eq];rfl
theorem sch_of_rep:∀ (n:Nat) (s:DSch),s.depth≤n→okS s→∀ {y:Value},Rep P w η X (encS s) y→∃ cs:List Value,y=.agg cs.toArray∧IsSch w (·<w.heap.size) s cs
 | 0,s,h,_,_,_=>by have:=s.depth_pos;omega
 | n+1,s,hd,hok,y,h=>by
  have hdp:∀ p∈s.parts,p.depth<s.depth:=fun p hp=>DSch.depth_part hp
  obtain ⟨o1,o2,o3,o4,o5⟩:=(okS_eq s).1 hok
  rw [encS_eq] at h
  simp only [Rep,RepL] at h
  obtain ⟨vs,rfl,⟨_,_,rfl,rfl,_,_,rfl,h2,_,_,rfl,h3,rfl⟩,_⟩:=h
  have h2':=scalars_of_rep (P:=P) (w:=w) (η:=η) (X:=X) sv (own:=.no) (l:=s.words) (by simp only [Rep];exact h2)
  have h3':=structs_of_rep (P:=P) (w:=w) (η:=η) (X:=X) encS encS_agg (own:=.no) (l:=s.parts) width_encS (by omega) (by simp only [Rep];exact h3)
  obtain ⟨A1,c1,rfl,g1,g2⟩:=h2'
  obtain ⟨A2,c2,b,o,C,rfl,k1,k2,k3,k4⟩:=h3'
  refine ⟨_,rfl,?_⟩
  obtain ⟨k,ws,ps⟩:=s
  refine .mk o1 g2 o2 g1 o3 k2 k3 (fun i p hp=>?_) k1 o4
  obtain ⟨cs,e1,e2⟩:=sch_of_rep n p (by have:=hdp p (List.mem_of_getElem? hp);omega) (o5 p (List.mem_of_getElem? hp)) (k4 i p hp)
  have:C i=cs:=by
   injection e1 with e1
   have:=congrArg Array.toList e1
   simpa using this
  rw [this]
  exact e2
theorem val_of_rep:∀ (n:Nat) (s:DVal),s.depth≤n→okV s→∀ {y:Value},Rep P w η X (encV s) y→∃ cs:List Value,y=.agg cs.toArray∧IsVal w (·<w.heap.size) s cs
 | 0,s,h,_,_,_=>by have:=s.depth_pos;omega
 | n+1,s,hd,hok,y,h=>by
  have hdp:∀ p∈s.parts,p.depth<s.depth:=fun p hp=>DVal.depth_part hp
  obtain ⟨o1,o2,o3,o4,o5,o6,o7,o8,o9⟩:=(okV_eq s).1 hok
  rw [encV_eq] at h
  simp only [strD,Rep,RepL] at h
  obtain ⟨vs,rfl,⟨_,_,rfl,rfl,_,_,rfl,rfl,_,_,rfl,rfl,_,_,rfl,h2,_,_,rfl,h4,_,_,rfl,h3,rfl⟩,_⟩:=h
  have h2':=scalars_of_rep (P:=P) (w:=w) (η:=η) (X:=X) sv (own:=.no) (l:=s.names) (by simp only [Rep];exact h2)
  have h4':=scalars_of_rep (P:=P) (w:=w) (η:=η) (X:=X) uv (own:=.no) (l:=s.ids) (by simp only [Rep];exact h4)
  have h3':=structs_of_rep (P:=P) (w:=w) (η:=η) (X:=X) encV encV_agg (own:=.no) (l:=s.parts) width_encV (by omega) (by simp only [Rep];exact h3)
  obtain ⟨A1,c1,rfl,g1,g2⟩:=h2'
  obtain ⟨A3,c3,rfl,g3,g4⟩:=h4'
  obtain ⟨A2,c2,b,o,C,rfl,k1,k2,k3,k4⟩:=h3'
  refine ⟨_,rfl,?_⟩
  obtain ⟨k,n',s',ns,is,ps⟩:=s
  refine .mk o1 o2 o3 g2 o4 g1 o5 g4 o6 g3 o7 k2 k3 (fun i p hp=>?_) k1 o8
  obtain ⟨cs,e1,e2⟩:=val_of_rep n p (by have:=hdp p (List.mem_of_getElem? hp);omega) (o9 p (List.mem_of_getElem? hp)) (k4 i p hp)
  have:C i=cs:=by
   injection e1 with e1
   have:=congrArg Array.toList e1
   simpa using this
  rw [this]
  exact e2
end
/-! ### Over memory, and over trees -/
section
variable {P : Program} {base : Nat} {S : St} {η : Names} {w : World}
theorem goes_below (h:Mem P base S η w) {w':World} (hb:Below w.heap.size w w') (hmo:mo=true→w.drawn≤w'.drawn):Goes P base S η w S η w':=by
 have K:Keep (fun _=>True) w η (Fix P S η) w' η (Fix P S η):=⟨hb.size,fun b i hlt hx=>⟨hx,hb.cell (p:=⟨b,i,none⟩) hlt⟩,fun _ _ _ hx=>hx,fun b cur _ hx=>⟨cur,by rw [hb.block b ((Array.getElem?_eq_some_iff.1 hx).1)];exact hx,rfl⟩⟩
 refine ⟨⟨Nat.le_trans h.base_ hb.size,h.dead,h.fresh,h.live,h.inj,fun k b hk=>⟨(h.in_ k b hk).1,Nat.lt_of_lt_of_le (h.in_ k b hk).2 hb.size⟩,fun k t cs b h1 h2=>?_,fun k e n b h1 h2=>?_,h.glob.below (hb.mono h.base_),fun k b l hk=>?_⟩,K,hb.mono h.base_,hmo,Loops.of_below hb⟩
 ·obtain ⟨vs,k1,k2,k3⟩:=h.box k t cs b h1 h2
  exact ⟨vs,by rw [hb.block b (h.in_ k b h2).2];exact k1,RepL.keep K (allL_true _) k2,k3⟩
 ·obtain ⟨cur,k1,k2⟩:=h.row k e n b h1 h2
  exact ⟨cur,by rw [hb.block b (h.in_ k b h2).2];exact k1,k2⟩
 ·obtain ⟨k1,es,c,k2,k3⟩:=h.mp k b l hk
  exact ⟨k1,es,c,by rw [hb.block b (h.in_ k b k1).2];exact k2,k3⟩
theorem dpure_of_gives {g:FuncId} {args:List D} {v:Value} (hent:∀ vs w,(callFunc g vs).run P w=.ok (.enter g vs) w) (h:∀ (w:World) (η:Names) (X:Nat→Nat→Prop) (vs:List Value),RepL P w η X args vs→Calls P g vs.toArray w (Gives v w)) (hmo:mo=false:=by rfl):DPure P g args (.v v) :=
 fun _ _ η w vs hM hr=>.inl ⟨hent _ _,(h w η _ vs hr).mono fun _ _ ⟨he,hb⟩=>⟨.v v,_,η,v,⟨rfl,rfl⟩,he,by simp only [Rep],goes_below hM hb (by rw [hmo];intro h;cases h)⟩⟩
def St.nil:St:=⟨0,fun _=>none⟩
theorem mem_nil (w:World) (hg:GlobOk w.heap.size w):Mem P w.heap.size St.nil (fun _=>none) w:=⟨Nat.le_refl _,fun _ _=>rfl,fun _ _=>rfl,(fun _ _ _ h=>by cases h),(fun _ _ _ h=>by cases h),(fun _ _ h=>by cases h),(fun _ _ _ _ h=>by cases h),(fun _ _ _ _ h=>by cases h),hg,fun _ _ _ h=>by cases h⟩
theorem fix_nil (b i:Nat):Fix P St.nil (fun _=>none) b i:=fun _ _ h=>by cases h
end
theorem empty_toList:(⟨#[]⟩:ByteArray).toList=[]:=by rw [Go.Lib.toList_data]
theorem cells_encV (v:DVal):(encV v).cells.length=6:=width_encV v
theorem cells_encS (s:DSch):(encS s).cells.length=3:=width_encS s
theorem agg_encV (v:DVal):D.agg (encV v).cells=encV v:=by rw [encV_eq];rfl
theorem agg_encS (s:DSch):D.agg (encS s).cells=encS s:=by rw [encS_eq];rfl
theorem take_encV (v:DVal):(encV v).cells.take 6=(encV v).cells:=List.take_of_length_le (by rw [cells_encV];omega)
theorem take_encS (s:DSch):(encS s).cells.take 3=(encS s).cells:=List.take_of_length_le (by rw [cells_encS];omega)
theorem okCell_encV (v:DVal):(encV v).okCell=true:=by rw [encV_eq];rfl
theorem okCell_encS (s:DSch):(encS s).okCell=true:=by rw [encS_eq];rfl
theorem cut_guard {P:Program} {x:D} {want:Bool} {f:Fm} {S:St} {ty:TypeId} {op:Op} {ops:Array Oper} {R J:Fm→St→Prop} {r:List Oper} {dst:Option Tmp} (J':Fm→St→Prop) (hJ:J=J') (h:∀ f S,J f S→R f S)
  (k:dguard x want (dopF P f S ty op (dnext P ops J r f dst)) (dskip P ops J r f dst S)):dguard x want (dopF P f S ty op (dnext P ops R r f dst)) (dskip P ops R r f dst S):=by
 cases x with
 | v u=>cases u with
  | bool b=>exact ⟨fun e=>dop_mono (fun d S' hd=>dops_mono h r hd) (k.1 e),fun e=>dops_mono h r (k.2 e)⟩
  | _=>exact k
 | tup l=>cases l with
  | nil=>exact dops_mono h r k
  | cons d l=>exact k
 | _=>exact k
attribute [go_sem] empty_toList strB_size cells_encV cells_encS agg_encV agg_encS take_encV take_encS okCell_encV okCell_encS strD u64D
end Go.Proofs.YtogbklnkpjjkoaaGreatDoor
namespace Go.Proofs.YtogbklnkpjjkoaaGreatDoor
open Go.ChangeShapes Go.WideShapes Go.ChangeAt Go.RowKit Go.Deep Go.Joins
section
variable {H : Type} {enc : TypeId × Value → H} {w : World}
theorem trod_struct2 {P:Program} {t:TypeId} {f0 f1:Field} {fuel:Nat} {cs:List Value} {x:DataW H × List MemPlace} (ht:P.underlying t=some (.struct #[f0,f1])) (h:DataW.trod enc P w 0 (fun _=>true) true fuel t cs=some x) :
  ∃ y0 y1 n,x.1=.agg [y0.1,y1.1]∧cs.length=P.cellsOf t∧DataW.trod enc P w 0 (fun _=>true) true n f0.type ((cs.drop f0.offset).take (P.cellsOf f0.type))=some y0 ∧
   DataW.trod enc P w 0 (fun _=>true) true n f1.type ((cs.drop f1.offset).take (P.cellsOf f1.type))=some y1:=by
 obtain ⟨xs,n,_,rfl,hl,hlen,hf⟩:=DataW.trod_struct ht h
 match xs,hlen with
 | [y0,y1],_=>exact ⟨y0,y1,n,by simp,hl,by simpa using hf 0 f0 rfl,by simpa using hf 1 f1 rfl⟩
theorem open_structs_trod {P:Program} {α:Type} (e:α→D) {t el:TypeId} {size bytes:Nat} (ht:P.underlying t=some (.slice el)) (hc:P.cellsOf el=size) (hs0:0<size) (hby:P.bytesOf el=bytes) (hb0:0<bytes) (Q:α→List Value→Prop)
  (elem:∀ (fuel:Nat) (cs:List Value) (x:DataW H × List MemPlace),DataW.trod enc P w 0 (fun _=>true) true fuel el cs=some x→Sized P el x.1→cs.length=size→∃ d,Q d cs)
  (hw:∀ a,(e a).width=size) (hag:∀ a,(e a).isAgg=true) (hrep:∀ d cs,Q d cs→∀ (η:Names) (X:Nat→Nat→Prop),(∀ b i,X b i)→Rep P w η X (e d) (.agg cs.toArray))
  {fuel:Nat} {cs:List Value} {x:DataW H × List MemPlace} (h:DataW.trod enc P w 0 (fun _=>true) true fuel t cs=some x) (hs:Sized P t x.1) :
  ∃ l:List α,(∀ a∈l,∃ cs,Q a cs)∧l.length≤140737488351232∧∃ u,cs=[u]∧∀ (η:Names) (X:Nat→Nat→Prop),(∀ b i,X b i)→Rep P w η X (.sl .no (l.map e)) u:=by
 obtain ⟨A,c,l,hcs,hlc,hr,hb⟩:=open_rows_trod (α:=α × List Value) ht hc hs0 hby hb0 (fun b o d=>d.2.length=size∧Q d.1 d.2∧w.rangeAt b o d.2) (fun fuel cs x b o _ hx hsx hlen hcell=>by
  obtain ⟨d,hd⟩:=elem fuel cs x hx hsx hlen
  exact ⟨(d,cs),hlen,hd,hcell⟩) h hs
 have hbb:l.length≤140737488351232:=by
  have:c * 1≤c * bytes:=Nat.mul_le_mul_left _ hb0
  omega
 refine ⟨l.map (·.1),fun a ha=>?_,by rw [List.length_map];exact hbb,_,hcs,fun η X hX=>?_⟩
 ·obtain ⟨d,hd,rfl⟩:=List.mem_map.1 ha
  obtain ⟨i,hi,rfl⟩:=List.getElem_of_mem hd
  obtain ⟨b,o,_,_,hf⟩:=hr (by omega)
  exact ⟨_,(hf i _ (List.getElem?_eq_getElem hi)).2.1⟩
 ·rcases Nat.eq_zero_or_pos l.length with h0 | h0
  ·obtain rfl:l=[]:=List.eq_nil_of_length_eq_zero h0
   simp only [Rep,List.map_nil,List.length_nil]
   exact ⟨A,c,rfl,Nat.zero_le _,by omega,trivial,fun h=>absurd h (by omega)⟩
  ·obtain ⟨b,o,rfl,hbl,hf⟩:=hr h0
   have hget:∀ (i:Nat) (a:α),(l.map (·.1))[i]? = some a→∃ C,l[i]? = some (a,C)∧((l[i]?.map (·.2)).getD [])=C:=by
    intro i a ha
    rw [List.getElem?_map] at ha
    cases hi:l[i]? with
    | none=>rw [hi] at ha;cases ha
    | some d =>
     rw [hi] at ha
     obtain ⟨d1,d2⟩:=d
     simp at ha
     exact ⟨d2,by rw [ha],rfl⟩
   have hlen:l.length=(l.map (·.1)).length:=by simp
   rw [hlen] at hlc hbb ⊢
   refine rep_structs (F:=(·<w.heap.size)) e size hs0 (fun b i _=>hX b i) (b:=b) (o:=o) (C:=fun i=>(l[i]?.map (·.2)).getD []) (fun _=>⟨rfl,hbl⟩) (fun i a ha=>?_) (fun i a ha=>?_) hag hlc hbb
   ·obtain ⟨C,h1,h2⟩:=hget i a ha
    simp only [h2]
    have:=hf i _ h1
    exact ⟨this.1,this.2.2⟩
   ·obtain ⟨C,h1,h2⟩:=hget i a ha
    simp only [h2]
    exact hrep a C (hf i _ h1).2.1 η X hX
theorem open_structs {P:Program} {α:Type} (e:α→D) {t el:TypeId} {size bytes:Nat} (ht:P.underlying t=some (.slice el)) (hc:P.cellsOf el=size) (hs0:0<size) (hby:P.bytesOf el=bytes) (hb0:0<bytes) (Q:α→List Value→Prop)
  (elem:∀ (fuel:Nat) (cs:List Value) (x:DataW H × List MemPlace),DataW.trod enc P w 0 (fun _=>true) true fuel el cs=some x→Sized P el x.1→cs.length=size→∃ d,Q d cs)
  (hw:∀ a,(e a).width=size) (hag:∀ a,(e a).isAgg=true) (hrep:∀ d cs,Q d cs→∀ (η:Names) (X:Nat→Nat→Prop),(∀ b i,X b i)→Rep P w η X (e d) (.agg cs.toArray))
  {v:Value} {d:DataW H} {p:List MemPlace} {W:World} {base:Nat} (h:DataW.Trod enc P w 0 (fun _=>true) true t v d p) (hs:Sized P t d) (hk:Value.okWide P W .any base t v) :
  ∃ l:List α,(∀ a∈l,∃ cs,Q a cs)∧l.length≤140737488351232∧∀ (η:Names) (X:Nat→Nat→Prop),(∀ b i,X b i)→Rep P w η X (.sl .no (l.map e)) v:=by
 obtain ⟨a,n,c,rfl⟩:=okWide_slice ht hk
 obtain ⟨fuel,h⟩:=h
 obtain ⟨l,h1,h2,u,e,h3⟩:=open_structs_trod e ht hc hs0 hby hb0 Q elem hw hag hrep h hs
 obtain rfl:Value.slice a n c=u:=by simpa [Value.cells] using e
 exact ⟨l,h1,h2,h3⟩
end
end Go.Proofs.YtogbklnkpjjkoaaGreatDoor
namespace Go.Proofs.YtogbklnkpjjkoaaGreatDoor
open Go.RowKit
def bad1 (kd num:Int) (xl nn ni:Nat):Prop:=kd<1∨6<kd∨(kd ≠ 1∧kd ≠ 2∧num ≠ 0)∨(kd ≠ 3∧kd ≠ 4∧0<xl)∨(kd ≠ 5∧0<nn)∨(kd ≠ 6∧0<ni)
instance (kd num:Int) (xl nn ni:Nat):Decidable (bad1 kd num xl nn ni):=by unfold bad1;exact inferInstance
def bad2 (kd num:Int) (xl nn ni np:Nat) (bn:Bool):Prop:=(kd=1∧num ≠ 0∧num ≠ 1)∨(kd=3∧64<xl)∨(kd=4∧bn=false)∨8<nn∨12<ni∨np ≠ nn+ni
instance (kd num:Int) (xl nn ni np:Nat) (bn:Bool):Decidable (bad2 kd num xl nn ni np bn):=by unfold bad2;exact inferInstance
def hereV (v:DVal):Bool:=(!decide (bad1 v.kind v.n v.s.length v.names.length v.ids.length) && !decide (bad2 v.kind v.n v.s.length v.names.length v.ids.length v.parts.length (nameB v.s))) && ((List.range v.names.length).all (riseOk v.names) && (List.range v.ids.length).all (idOk v.ids))
def soundV:Nat→DVal→Bool
 | 0,_=>true
 | k+1,v=>hereV v && v.parts.all (soundV k)
def soundSt (v:DVal) (S:St):St:=S.add (.box 43 [.v (.int .i64 v.kind),.v (.int .i64 v.n),strD v.s,.sl .no (v.names.map strD),.sl .no (v.ids.map u64D),.sl .no (v.parts.map encV)])
theorem refName_d (s:Str) (hs:s.length≤maxLen):DPure Tryz.prog 89 [.v (sv s)] (.v (.bool (nameB s))) :=
 dpure_of_gives (fun _ _=>by kernel_rfl) fun w η X vs hr=>by
  simp only [RepL,Rep] at hr
  obtain ⟨x,xs,rfl,rfl,rfl⟩:=hr
  exact (refName_calls s w hs).mono fun e w' ⟨he,hw⟩=>⟨he,hw ▸ Below.refl _ _⟩
theorem all_not {l:Nat} {p:Nat→Bool} {i:Nat} (h:i<l) (hp:p i=false):(List.range l).all p=false:=List.all_eq_false.2 ⟨i,List.mem_range.2 h,by simp [hp]⟩
theorem all_of {l:Nat} {p:Nat→Bool} (h:∀ j,j<l→p j=true):(List.range l).all p=true:=List.all_eq_true.2 fun j hj=>h j (List.mem_range.1 hj)
theorem getD_at {α:Type} {l:List α} {i:Nat} {d:α} (h:i<l.length):l.getD i d=l[i]:=by simp [List.getD,h]
theorem leq_not (x y:Str):(Op.bytesLess x y || x == y) = !sLt y x:=by
 have h1:=sLt_iff x y
 have h2:=sLt_iff y x
 rw [show Op.bytesLess x y=sLt x y from rfl,h1,h2,Bool.eq_iff_iff]
 simp only [Bool.or_eq_true,decide_eq_true_eq,beq_iff_eq,Bool.not_eq_true',decide_eq_false_iff_not,List.not_lt]
 constructor
 ·rintro (h | h)
  ·exact List.le_of_lt h
  ·rw [h];exact List.le_refl y
 ·intro h
  by_cases e:x=y
  ·exact .inr e
  ·exact .inl (Classical.byContradiction fun hn=>e (List.le_antisymm h (List.not_lt.1 hn)))
structure LNames (v:DVal) (S:St) (f:Fm) (T:St) (i:Nat):Prop where
 st:T=soundSt v S
 s1:f 1=.loc S.next 0
 s4:f 4=.v (.int .i64 i)
 le:i≤v.names.length
 ok:∀ j,j<i→riseOk v.names j=true
def LNamesE (v:DVal) (S:St) (f:Fm) (T:St):Prop:=∃ i,LNames v S f T i
structure JNames (v:DVal) (S:St) (f:Fm) (T:St):Prop where
 st:T=soundSt v S
 s1:f 1=.loc S.next 0
 ok:(List.range v.names.length).all (riseOk v.names)=true
structure LIds (v:DVal) (S:St) (f:Fm) (T:St) (i:Nat):Prop where
 st:T=soundSt v S
 s1:f 1=.loc S.next 0
 s5:f 5=.v (.int .i64 i)
 le:i≤v.ids.length
 ok:∀ j,j<i→idOk v.ids j=true
def LIdsE (v:DVal) (S:St) (f:Fm) (T:St):Prop:=∃ i,LIds v S f T i
structure LIn (v:DVal) (S:St) (i:Nat) (f:Fm) (T:St) (j:Nat):Prop where
 st:T=soundSt v S
 s1:f 1=.loc S.next 0
 s5:f 5=.v (.int .i64 i)
 s6:f 6=.v (.int .i64 j)
 le:j≤i
 no:∀ r,r<j→v.ids.getD r 0 ≠ v.ids.getD i 0
def LInE (v:DVal) (S:St) (i:Nat) (f:Fm) (T:St):Prop:=∃ j,LIn v S i f T j
structure JIds (v:DVal) (S:St) (f:Fm) (T:St):Prop where
 st:T=soundSt v S
 s1:f 1=.loc S.next 0
 ok:(List.range v.ids.length).all (idOk v.ids)=true
structure LParts (v:DVal) (k:Nat) (S:St) (f:Fm) (T:St) (i:Nat):Prop where
 st:T=soundSt v S
 s1:f 1=.loc S.next 0
 s7:f 7=.v (.int .i64 i)
 le:i≤v.parts.length
 ok:∀ j (h:j<v.parts.length),j<i→soundV k v.parts[j]=true
def LPartsE (v:DVal) (k:Nat) (S:St) (f:Fm) (T:St):Prop:=∃ i,LParts v k S f T i
theorem mem_take_iff (l:List Nat) (i:Nat) (x:Nat) (hi:i≤l.length):x∈l.take i↔∃ r,r<i∧l.getD r 0=x:=by
 rw [List.mem_take_iff_getElem]
 constructor
 ·rintro ⟨r,hr,e⟩
  exact ⟨r,by omega,by rw [getD_at (by omega)];exact e⟩
 ·rintro ⟨r,hr,e⟩
  exact ⟨r,by omega,by rw [getD_at (by omega)] at e;exact e⟩
structure Cut2 (v:DVal) (S:St) (f:Fm) (T:St):Prop where
 st:T=soundSt v S
 s1:f 1=.loc S.next 0
 s118:f 118=.v (.bool (decide (bad2 v.kind v.n v.s.length v.names.length v.ids.length v.parts.length (nameB v.s))))
structure Cut1 (v:DVal) (S:St) (f:Fm) (T:St):Prop where
 st:T=soundSt v S
 s1:f 1=.loc S.next 0
 s3:f 3=.v (.int .i64 v.kind)
 s61:f 61=.v (.bool (decide (bad1 v.kind v.n v.s.length v.names.length v.ids.length)))
set_option maxRecDepth 200000 in
set_option maxHeartbeats 8000000 in
theorem refSoundV_d (k:Nat):∀ (v:DVal),v.depth≤k→okV v→DPure Tryz.prog 122 [encV v] (.v (.bool (soundV k v))):=by
 induction k with
 | zero=>intro v h;have:=v.depth_pos;omega
 | succ k ih =>
  intro v hk hok
  refine dpure_of_dwp mixed Tryz.func122 rfl (fun _ _=>by kernel_rfl) (rs:=[.tmp 2]) rfl (by kernel_rfl) trivial (fun S hS=>?_)
  simp only [go_sem,add_ob,set_ob,encV_eq v]
  refine cut_guard (Cut1 v S) rfl ?_ ?_
  ·intro f T h
   obtain rfl:=h.st
   cases hb1:decide (bad1 v.kind v.n v.s.length v.names.length v.ids.length) with
   | true =>
    have hr:soundV (k+1) v=false:=by simp only [soundV,hereV,hb1];rfl
    simp only [go_sem,add_ob,set_ob,h.s61,hb1]
    exact ⟨by rw [hr];rfl,(St.Sub.refl S).add hS _⟩
   | false =>
    have hgood:¬ bad1 v.kind v.n v.s.length v.names.length v.ids.length:=of_decide_eq_false hb1
    simp only [go_sem,add_ob,set_ob,h.s61,h.s1,h.s3,hb1,soundSt]
    obtain ⟨o1,o2,o3,o4,o5,o6,o7,o8,o9⟩:=(okV_eq v).1 hok
    refine cut_guard (Cut2 v S) rfl ?_ ?_
    ·intro f2 T2 h2
     obtain rfl:=h2.st
     cases hb2:decide (bad2 v.kind v.n v.s.length v.names.length v.ids.length v.parts.length (nameB v.s)) with
     | true =>
      have hr:soundV (k+1) v=false:=by simp only [soundV,hereV,hb1,hb2];rfl
      simp only [go_sem,add_ob,set_ob,h2.s118,hb2]
      exact ⟨by rw [hr];rfl,(St.Sub.refl S).add hS _⟩
     | false =>
      have hok2:¬ bad2 v.kind v.n v.s.length v.names.length v.ids.length v.parts.length (nameB v.s):=of_decide_eq_false hb2
      simp only [go_sem,add_ob,set_ob,h2.s118,h2.s1,hb2,soundSt]
      refine loop_cut (JNames v S) ?_ ?_
      ·refine dloop_mk (LNamesE v S) (fun f _=>v.names.length - slotN (f 4)) ⟨0,⟨rfl,by simp only [go_sem,add_ob,set_ob,h2.s1],by simp only [go_sem,add_ob,set_ob];rfl,by omega,fun j hj=>by omega⟩⟩ ?_
       rintro g T ⟨i,q⟩
       obtain rfl:=q.st
       by_cases hlt:i<v.names.length
       ·have b1:decide ((i:Int)<(v.names.length:Int))=true:=by simp;omega
        have hx:=getD_map strD v.names i hlt
        have c1:(0:Int)≤(i:Int):=by omega
        have c2:(i:Int)<(v.names.length:Int):=by omega
        simp only [go_sem,add_ob,set_ob,q.s1,q.s4,b1,soundSt]
        refine ddraw_mk 25 (by kernel_rfl) ?_
        simp only [go_sem,add_ob,set_ob,q.s1,q.s4,hx,c1,c2]
        refine dqgo_mk (refName_d v.names[i] (o4 _ (List.getElem_mem hlt))) ?_
        have w1:IntKind.i64.wrap ((i:Int)+1)=(i:Int)+1:=IntWalk.i64_in _ ⟨by omega,by omega⟩
        have bad:riseOk v.names i=false→soundV (k+1) v=false:=fun hh=>by
         simp only [soundV,hereV,all_not (p:=riseOk v.names) hlt hh,Bool.false_and,Bool.and_false]
        have hri:riseOk v.names i=(nameB v.names[i] && (decide (i=0) || sLt (v.names.getD (i - 1) []) v.names[i])):=by rw [riseOk,getD_at hlt]
        have next:riseOk v.names i=true→∀ j,j<i+1→riseOk v.names j=true:=fun hh j hj=>by
         by_cases e:j=i
         ·rw [e];exact hh
         ·exact q.ok j (by omega)
        cases hn:nameB v.names[i] with
        | false =>
         simp only [go_sem,add_ob,set_ob,q.s1,q.s4,hx,c1,c2,hn]
         exact ⟨by rw [bad (by rw [hri,hn];rfl)];rfl,(St.Sub.refl S).add hS _⟩
        | true =>
         by_cases hi0:i=0
         ·have b3:decide ((0:Int)<(i:Int))=false:=by simp [hi0]
          simp only [go_sem,add_ob,set_ob,q.s1,q.s4,hx,c1,c2,hn,b3,w1]
          exact round_end ⟨i+1,⟨rfl,by simp only [go_sem,add_ob,set_ob,q.s1],by simp only [go_sem,add_ob,set_ob];rfl,by omega,next (by rw [hri,hn,decide_eq_true hi0];rfl)⟩⟩ (by simp only [go_sem,add_ob,set_ob];omega)
         ·have b3:decide ((0:Int)<(i:Int))=true:=by simp;omega
          have w2:IntKind.i64.wrap ((i:Int) - 1)=(i:Int) - 1:=IntWalk.i64_in _ ⟨by omega,by omega⟩
          have n2:((i:Int) - 1).toNat=i - 1:=by omega
          have hx2:=getD_map strD v.names (i - 1) (by omega)
          have hx3:v.names.getD (i - 1) []=v.names[i - 1]:=getD_at (by omega)
          have c3:(0:Int)≤(i:Int) - 1:=by omega
          have c4:(i:Int) - 1<(v.names.length:Int):=by omega
          simp only [go_sem,add_ob,set_ob,q.s1,q.s4,hx,c1,c2,hn,b3,w1,w2,n2,hx2,c3,c4,leq_not]
          cases hs:sLt v.names[i - 1] v.names[i] with
          | false =>
           simp only [go_sem,add_ob,set_ob,hs]
           exact ⟨by rw [bad (by rw [hri,hn,hx3,hs,decide_eq_false hi0];rfl)];rfl,(St.Sub.refl S).add hS _⟩
          | true =>
           simp only [go_sem,add_ob,set_ob,hs,q.s1,q.s4,w1]
           exact round_end ⟨i+1,⟨rfl,by simp only [go_sem,add_ob,set_ob,q.s1],by simp only [go_sem,add_ob,set_ob];rfl,by omega,next (by rw [hri,hn,hx3,hs,Bool.or_true];rfl)⟩⟩ (by simp only [go_sem,add_ob,set_ob];omega)
       ·have b1:decide ((i:Int)<(v.names.length:Int))=false:=by simp;omega
        simp only [go_sem,add_ob,set_ob,q.s1,q.s4,b1,soundSt]
        exact ⟨rfl,by simp only [go_sem,add_ob,set_ob,q.s1],all_of fun j hj=>q.ok j (by omega)⟩
      ·intro f3 T3 h3
       obtain rfl:=h3.st
       simp only [go_sem,add_ob,set_ob,h3.s1,soundSt]
       refine loop_cut (JIds v S) ?_ ?_
       ·refine dloop_mk (LIdsE v S) (fun f _=>v.ids.length - slotN (f 5)) ⟨0,⟨rfl,by simp only [go_sem,add_ob,set_ob,h3.s1],by simp only [go_sem,add_ob,set_ob];rfl,by omega,fun j hj=>by omega⟩⟩ ?_
        rintro g T ⟨i,q⟩
        obtain rfl:=q.st
        by_cases hlt:i<v.ids.length
        ·have b1:decide ((i:Int)<(v.ids.length:Int))=true:=by simp;omega
         have hx:=getD_map u64D v.ids i hlt
         have c1:(0:Int)≤(i:Int):=by omega
         have c2:(i:Int)<(v.ids.length:Int):=by omega
         have w1:IntKind.i64.wrap ((i:Int)+1)=(i:Int)+1:=IntWalk.i64_in _ ⟨by omega,by omega⟩
         have bad:idOk v.ids i=false→soundV (k+1) v=false:=fun hh=>by
          simp only [soundV,hereV,all_not (p:=idOk v.ids) hlt hh,Bool.false_and,Bool.and_false]
         simp only [go_sem,add_ob,set_ob,q.s1,q.s5,b1,soundSt]
         refine loop_cut (LIn v S i · · i) ?_ ?_
         ·refine dloop_mk (LInE v S i) (fun f _=>i - slotN (f 6)) ⟨0,⟨rfl,by simp only [go_sem,add_ob,set_ob,q.s1],by simp only [go_sem,add_ob,set_ob,q.s5],by simp only [go_sem,add_ob,set_ob];rfl,by omega,fun j hj=>by omega⟩⟩ ?_
          rintro g2 T2 ⟨j,p⟩
          obtain rfl:=p.st
          by_cases hjl:j<i
          ·have b2:decide ((j:Int)<(i:Int))=true:=by simp;omega
           have hx2:=getD_map u64D v.ids j (by omega)
           have c3:(0:Int)≤(j:Int):=by omega
           have c4:(j:Int)<(v.ids.length:Int):=by omega
           have w2:IntKind.i64.wrap ((j:Int)+1)=(j:Int)+1:=IntWalk.i64_in _ ⟨by omega,by omega⟩
           simp only [go_sem,add_ob,set_ob,p.s1,p.s5,p.s6,b2,soundSt]
           refine ddraw_mk 11 (by kernel_rfl) ?_
           simp only [go_sem,add_ob,set_ob,p.s1,p.s5,p.s6,hx,hx2,c1,c2,c3,c4]
           by_cases he:v.ids[i]=v.ids[j]
           ·have b3:((v.ids[i]:Int) == (v.ids[j]:Int))=true:=by simp [he]
            simp only [go_sem,add_ob,set_ob,b3]
            have hm:v.ids.getD i 0∈v.ids.take i:=(mem_take_iff _ _ _ (by omega)).2 ⟨j,hjl,by rw [getD_at (by omega),getD_at hlt,he]⟩
            have hbad:idOk v.ids i=false:=by
             show (!decide (v.ids.getD i 0=0) && !decide (v.ids.getD i 0∈v.ids.take i))=false
             rw [decide_eq_true hm,Bool.not_true,Bool.and_false]
            exact ⟨by rw [bad hbad];rfl,(St.Sub.refl S).add hS _⟩
           ·have b3:((v.ids[i]:Int) == (v.ids[j]:Int))=false:=by simp;omega
            simp only [go_sem,add_ob,set_ob,b3,p.s6,w2]
            exact round_end ⟨j+1,⟨rfl,by simp only [go_sem,add_ob,set_ob,p.s1],by simp only [go_sem,add_ob,set_ob,p.s5],by simp only [go_sem,add_ob,set_ob];rfl,by omega,fun r hr=>by
             by_cases e:r=j
             ·subst e;rw [getD_at (by omega),getD_at hlt];exact fun h=>he h.symm
             ·exact p.no r (by omega)⟩⟩ (by simp only [go_sem,add_ob,set_ob,p.s6];omega)
          ·have b2:decide ((j:Int)<(i:Int))=false:=by simp;omega
           simp only [go_sem,add_ob,set_ob,p.s1,p.s5,p.s6,b2,soundSt]
           have:j=i:=by have:=p.le;omega
           subst this
           exact ⟨rfl,by simp only [go_sem,add_ob,set_ob,p.s1],by simp only [go_sem,add_ob,set_ob,p.s5],by simp only [go_sem,add_ob,set_ob,p.s6],Nat.le_refl _,p.no⟩
         ·intro f4 T4 h4
          obtain rfl:=h4.st
          simp only [go_sem,add_ob,set_ob,h4.s1,h4.s5,hx,c1,c2,soundSt]
          by_cases hz:v.ids[i]=0
          ·have b3:((v.ids[i]:Int) == 0)=true:=by simp [hz]
           simp only [go_sem,add_ob,set_ob,b3,c1,c2,true_and]
           have hbad:idOk v.ids i=false:=by
            show (!decide (v.ids.getD i 0=0) && !decide (v.ids.getD i 0∈v.ids.take i))=false
            rw [decide_eq_true (show v.ids.getD i 0=0 by rw [getD_at hlt];exact hz)];rfl
           exact ⟨by rw [bad hbad];rfl,(St.Sub.refl S).add hS _⟩
          ·have b3:((v.ids[i]:Int) == 0)=false:=by simp;omega
           simp only [go_sem,add_ob,set_ob,b3,h4.s5,w1,c1,c2]
           have hi:idOk v.ids i=true:=by
            have hm:¬ v.ids.getD i 0∈v.ids.take i:=fun hm=>by
             obtain ⟨r,hr,e⟩:=(mem_take_iff _ _ _ (by omega)).1 hm
             exact h4.no r hr e
            show (!decide (v.ids.getD i 0=0) && !decide (v.ids.getD i 0∈v.ids.take i))=true
            rw [decide_eq_false hm,decide_eq_false (show ¬ v.ids.getD i 0=0 by rw [getD_at hlt];exact hz)];rfl
           exact round_end ⟨i+1,⟨rfl,by simp only [go_sem,add_ob,set_ob,h4.s1],by simp only [go_sem,add_ob,set_ob];rfl,by omega,fun j hj=>by
            by_cases e:j=i
            ·rw [e];exact hi
            ·exact q.ok j (by omega)⟩⟩ (by simp only [go_sem,add_ob,set_ob,q.s5];omega)
        ·have b1:decide ((i:Int)<(v.ids.length:Int))=false:=by simp;omega
         simp only [go_sem,add_ob,set_ob,q.s1,q.s5,b1,soundSt]
         exact ⟨rfl,by simp only [go_sem,add_ob,set_ob,q.s1],all_of fun j hj=>q.ok j (by omega)⟩
       ·intro f5 T5 h5
        obtain rfl:=h5.st
        simp only [go_sem,add_ob,set_ob,h5.s1,soundSt]
        have hhere:hereV v=true:=by simp only [hereV,hb1,hb2,h3.ok,h5.ok];rfl
        refine dloop_mk (LPartsE v k S) (fun f _=>v.parts.length - slotN (f 7)) ⟨0,⟨rfl,by simp only [go_sem,add_ob,set_ob,h5.s1],by simp only [go_sem,add_ob,set_ob];rfl,by omega,fun j _ hj=>by omega⟩⟩ ?_
        rintro g T ⟨i,q⟩
        obtain rfl:=q.st
        by_cases hlt:i<v.parts.length
        ·have b1:decide ((i:Int)<(v.parts.length:Int))=true:=by simp;omega
         have hx:=getD_map encV v.parts i hlt
         have c1:(0:Int)≤(i:Int):=by omega
         have c2:(i:Int)<(v.parts.length:Int):=by omega
         have w1:IntKind.i64.wrap ((i:Int)+1)=(i:Int)+1:=IntWalk.i64_in _ ⟨by omega,by omega⟩
         simp only [go_sem,add_ob,set_ob,q.s1,q.s7,b1,hx,c1,c2,soundSt]
         have hd:=DVal.depth_part (List.getElem_mem hlt)
         refine DCalls.of_pure (ih v.parts[i] (by omega) (o9 _ (List.getElem_mem hlt))) ?_
         cases hs:soundV k v.parts[i] with
         | false =>
          simp only [go_sem,add_ob,set_ob,hs]
          refine ⟨?_,(St.Sub.refl S).add hS _⟩
          rw [show soundV (k+1) v=false by simp only [soundV,hhere,Bool.true_and];exact List.all_eq_false.2 ⟨_,List.getElem_mem hlt,by rw [hs];simp⟩]
          rfl
         | true =>
          simp only [go_sem,add_ob,set_ob,hs,q.s7,w1]
          exact round_end ⟨i+1,⟨rfl,by simp only [go_sem,add_ob,set_ob,q.s1],by simp only [go_sem,add_ob,set_ob];rfl,by omega,fun j hj hji=>by
           by_cases e:j=i
           ·subst e;exact hs
           ·exact q.ok j hj (by omega)⟩⟩ (by simp only [go_sem,add_ob,set_ob];omega)
        ·have b1:decide ((i:Int)<(v.parts.length:Int))=false:=by simp;omega
         simp only [go_sem,add_ob,set_ob,q.s1,q.s7,b1,soundSt]
         refine ⟨?_,(St.Sub.refl S).add hS _⟩
         rw [show soundV (k+1) v=true by
          simp only [soundV,hhere,Bool.true_and]
          exact List.all_eq_true.2 fun p hp=>by
           obtain ⟨j,hj,rfl⟩:=List.getElem_of_mem hp
           exact q.ok j hj (by omega)]
         rfl
    ·have hsl:v.s.length≤maxLen:=o3
     have hwr:IntKind.i64.wrap ((v.names.length:Int)+(v.ids.length:Int))=(v.names.length:Int)+(v.ids.length:Int):=IntWalk.i64_in _ ⟨by omega,by omega⟩
     repeat' first | (refine DCalls.of_pure (refName_d v.s hsl) ?_;simp only [go_sem,add_ob,set_ob,h.s1,h.s3,hwr]) | (refine dg_mk (fun hb=>?_) (fun hb=>?_) <;> (simp only [go_sem,add_ob,set_ob,hb,h.s1,h.s3,hwr];simp at hb))
     all_goals refine ⟨rfl,by simp only [go_sem,add_ob,set_ob,h.s1],?_⟩
     all_goals simp only [go_sem,add_ob,set_ob]
     all_goals
      congr 2
      rw [Bool.eq_iff_iff]
      simp only [decide_eq_true_eq,Bool.false_eq_true,false_iff,true_iff,bne_iff_ne,Bool.not_eq_true'] at *
      simp only [bad2,← List.length_eq_zero_iff] at *
      cases hnb:nameB v.s <;> simp only [hnb,Bool.true_eq_false,Bool.false_eq_true,and_true,and_false,false_or,not_true_eq_false,not_false_eq_true] at * <;> first | done | omega
  ·repeat' (refine dg_mk (fun hb=>?_) (fun hb=>?_) <;> (simp only [go_sem,add_ob,set_ob,hb];simp at hb))
   all_goals refine ⟨rfl,by simp only [go_sem,add_ob,set_ob],by simp only [go_sem,add_ob,set_ob],?_⟩
   all_goals simp only [go_sem,add_ob,set_ob]
   all_goals
    congr 2
    rw [Bool.eq_iff_iff]
    simp only [decide_eq_true_eq,Bool.false_eq_true,false_iff,true_iff] at *
    simp only [bad1,← List.length_eq_zero_iff] at *
    omega
theorem plain_hereV (v:DVal):plainV v=hereV v:=by
 unfold plainV hereV riseV idsB
 have hR0:v.names.length=0→(List.range v.names.length).all (riseOk v.names)=true:=fun h=>by rw [h];rfl
 have hI0:v.ids.length=0→(List.range v.ids.length).all (idOk v.ids)=true:=fun h=>by rw [h];rfl
 have hs:decide (v.s=[])=decide (v.s.length=0):=by rw [decide_eq_decide,List.length_eq_zero_iff]
 rw [hs]
 have hR:(List.range v.names.length).all (riseOk v.names)=true∨((List.range v.names.length).all (riseOk v.names)=false∧0<v.names.length):=by
  cases h:(List.range v.names.length).all (riseOk v.names) with
  | true=>exact .inl rfl
  | false=>exact .inr ⟨rfl,Nat.pos_of_ne_zero fun e=>by rw [hR0 e] at h;cases h⟩
 have hI:(List.range v.ids.length).all (idOk v.ids)=true∨((List.range v.ids.length).all (idOk v.ids)=false∧0<v.ids.length):=by
  cases h:(List.range v.ids.length).all (idOk v.ids) with
  | true=>exact .inl rfl
  | false=>exact .inr ⟨rfl,Nat.pos_of_ne_zero fun e=>by rw [hI0 e] at h;cases h⟩
 clear hR0 hI0 hs
 generalize (List.range v.names.length).all (riseOk v.names)=R at *
 generalize (List.range v.ids.length).all (idOk v.ids)=J at *
 generalize nameB v.s=bn at *
 generalize v.kind=kd at *
 generalize v.n=n at *
 generalize v.s.length=xl at *
 generalize v.names.length=nn at *
 generalize v.ids.length=ni at *
 generalize v.parts.length=np at *
 have hk:kd=1∨kd=2∨kd=3∨kd=4∨kd=5∨kd=6∨(kd<1∨6<kd):=by omega
 rw [Bool.eq_iff_iff]
 rcases hR with rfl | ⟨rfl,hR⟩ <;> rcases hI with rfl | ⟨rfl,hI⟩ <;> cases bn <;> rcases hk with rfl | rfl | rfl | rfl | rfl | rfl | hk
 all_goals first
  | (simp only [Int.reduceEq,reduceIte,Bool.and_eq_true,decide_eq_true_eq,Bool.not_eq_true',decide_eq_false_iff_not,Bool.false_eq_true,Bool.or_eq_true,and_true,true_and,and_false,false_and,false_iff,iff_false] <;> (try simp only [bad1,bad2,Int.reduceEq,Int.reduceLT,Bool.false_eq_true,Bool.true_eq_false,and_true,and_false,true_and,false_and,false_or,or_false,true_or,or_true,ne_eq,not_true_eq_false,not_false_eq_true]) <;> omega)
  | (rw [if_neg (by omega),if_neg (by omega),if_neg (by omega),if_neg (by omega),if_neg (by omega),if_neg (by omega)];simp only [Bool.and_eq_true,decide_eq_true_eq,Bool.not_eq_true',decide_eq_false_iff_not,Bool.false_eq_true,Bool.or_eq_true,and_true,true_and,and_false,false_and,false_iff,iff_false] <;> (try simp only [bad1,bad2,Bool.false_eq_true,Bool.true_eq_false,and_true,and_false,true_and,false_and,false_or,or_false,true_or,or_true,ne_eq,not_true_eq_false,not_false_eq_true]) <;> omega)
theorem depthsV_all (l:List DVal) (k:Nat):DVal.depths l≤k↔∀ p∈l,p.depth≤k:=by
 induction l with
 | nil=>simp [DVal.depths]
 | cons x l ih =>
  simp only [DVal.depths,List.mem_cons,forall_eq_or_imp]
  rw [← ih];omega
theorem right_soundV (k:Nat):∀ (s:DVal) (m:Nat),s.depth≤m→rightV k s=(decide (s.depth≤k) && soundV m s):=by
 induction k with
 | zero=>intro s m _;have:=s.depth_pos;simp [rightV];omega
 | succ k ih =>
  intro s m hm
  obtain ⟨m,rfl⟩:∃ n,m=n+1:=⟨m - 1,by have:=s.depth_pos;omega⟩
  have hd:=s.depth_eq
  rw [Bool.eq_iff_iff]
  simp only [rightV,soundV,Bool.and_eq_true,decide_eq_true_eq,plain_hereV,List.all_eq_true]
  have hall:=depthsV_all s.parts
  constructor
  ·rintro ⟨h1,h2⟩
   have h3:∀ p∈s.parts,p.depth≤k∧soundV m p=true:=fun p hp=>by
    have:=h2 p hp
    rw [ih p m (by have:=DVal.depth_part hp;omega)] at this
    simpa using this
   exact ⟨by have:=(hall k).2 (fun p hp=>(h3 p hp).1);omega,h1,fun p hp=>(h3 p hp).2⟩
  ·rintro ⟨h0,h1,h2⟩
   refine ⟨h1,fun p hp=>?_⟩
   rw [ih p m (by have:=DVal.depth_part hp;omega),h2 p hp,Bool.and_true,decide_eq_true_eq]
   exact (hall k).1 (by omega) p hp
theorem arg_val {P:Program} {w:World} {η:Names} {X:Nat→Nat→Prop} {v:DVal} {vs:List Value} (hok:okV v) (h:RepL P w η X [encV v] vs):∃ cs:List Value,vs=[.agg cs.toArray]∧IsVal w (·<w.heap.size) v cs:=by
 simp only [RepL] at h
 obtain ⟨x,xs,rfl,h1,rfl⟩:=h
 obtain ⟨cs,rfl,hv⟩:=val_of_rep v.depth v (Nat.le_refl _) hok h1
 exact ⟨cs,rfl,hv⟩
theorem arg_sch {P:Program} {w:World} {η:Names} {X:Nat→Nat→Prop} {v:DSch} {vs:List Value} (hok:okS v) (h:RepL P w η X [encS v] vs):∃ cs:List Value,vs=[.agg cs.toArray]∧IsSch w (·<w.heap.size) v cs:=by
 simp only [RepL] at h
 obtain ⟨x,xs,rfl,h1,rfl⟩:=h
 obtain ⟨cs,rfl,hv⟩:=sch_of_rep v.depth v (Nat.le_refl _) hok h1
 exact ⟨cs,rfl,hv⟩
theorem dpure_val {P:Program} {g:FuncId} {v:DVal} {r:Value} (hok:okV v) (hent:∀ vs w,(callFunc g vs).run P w=.ok (.enter g vs) w) (h:∀ (w:World) (cs:List Value),IsVal w (·<w.heap.size) v cs→Calls P g #[.agg cs.toArray] w (Gives r w)) (hmo:mo=false:=by rfl):DPure P g [encV v] (.v r) :=
 dpure_of_gives hent (hmo:=hmo) fun w η X vs hr=>by obtain ⟨cs,rfl,hv⟩:=arg_val hok hr;exact h w cs hv
theorem dpure_sch {P:Program} {g:FuncId} {v:DSch} {r:Value} (hok:okS v) (hent:∀ vs w,(callFunc g vs).run P w=.ok (.enter g vs) w) (h:∀ (w:World) (cs:List Value),IsSch w (·<w.heap.size) v cs→Calls P g #[.agg cs.toArray] w (Gives r w)) (hmo:mo=false:=by rfl):DPure P g [encS v] (.v r) :=
 dpure_of_gives hent (hmo:=hmo) fun w η X vs hr=>by obtain ⟨cs,rfl,hv⟩:=arg_sch hok hr;exact h w cs hv
theorem greatV_d (v:DVal) (hok:okV v):DPure Tryz.prog 57 [encV v] (.v (.bool (decide (roomV 12 v 300<0)))):=dpure_val hok (fun _ _=>by kernel_rfl) fun w cs h=>greatV_calls v cs w h
theorem valRight_d (v:DVal) (hok:okV v):DPure Tryz.prog 143 [encV v] (.v (.bool (rightV 5 v))):=dpure_val hok (fun _ _=>by kernel_rfl) fun w cs h=>valRightP_calls v cs w h
theorem refValDepth_d (v:DVal) (hok:okV v) (hd:v.depth≤1000000):DPure Tryz.prog 121 [encV v] (.v (.int .i64 v.depth)):=dpure_val hok (fun _ _=>by kernel_rfl) fun w cs h=>refValDepth_calls 1000000 v cs w hd (Nat.le_refl _) h
theorem refValRight_d (v:DVal) (hok:okV v) (hd:v.depth≤1000000):DPure Tryz.prog 95 [encV v] (.v (.bool (rightV 5 v))):=by
 have hr:=right_soundV 5 v v.depth (Nat.le_refl _)
 refine dpure_of_dwp mixed Tryz.func95 rfl (fun _ _=>by kernel_rfl) (rs:=[.tmp 2]) rfl (by kernel_rfl) trivial (fun S hS=>?_)
 simp only [go_sem,add_ob,set_ob]
 refine DCalls.of_pure (refValDepth_d v hok hd) ?_
 simp only [go_sem,add_ob,set_ob]
 by_cases h5:v.depth≤5
 ·have b1:decide ((v.depth:Int)≤5)=true:=by simp;omega
  simp only [go_sem,add_ob,set_ob,b1]
  refine DCalls.of_pure (refSoundV_d v.depth v (Nat.le_refl _) hok) ?_
  simp only [go_sem,add_ob,set_ob]
  exact ⟨by rw [hr,decide_eq_true h5];rfl,(St.Sub.refl S).add hS _⟩
 ·have b1:decide ((v.depth:Int)≤5)=false:=by simp;omega
  simp only [go_sem,add_ob,set_ob,b1]
  exact ⟨by rw [hr,decide_eq_false h5];rfl,(St.Sub.refl S).add hS _⟩
theorem sne1_0 (n:Nat):(n+1=n)=False:=eq_false (by omega)
theorem sne0_1 (n:Nat):(n=n+1)=False:=eq_false (by omega)
theorem sne3_0 (n:Nat):(n+3=n)=False:=eq_false (by omega)
attribute [go_sem] sne1_0 sne0_1 sne3_0
theorem strArg {P:Program} {w:World} {η:Names} {X:Nat→Nat→Prop} {own:Own} {l:List Str} {y:Value} (h:Rep P w η X (.sl own (l.map strD)) y):∃ A c,y=.slice A l.length c∧l.length≤c∧RF w (·<w.heap.size) 1 A l.length (l.map sv):=scalars_of_rep sv h
def RV (v:DVal):Prop:=∃ m,v.depth≤m∧soundV m v=true
def RS (s:DSch):Prop:=∃ m,s.depth≤m∧soundS m s=true
theorem RV.part {v p:DVal} (h:RV v) (hp:p∈v.parts):RV p:=by
 obtain ⟨m,h1,h2⟩:=h
 obtain ⟨m,rfl⟩:∃ n,m=n+1:=⟨m - 1,by have:=v.depth_pos;omega⟩
 rw [soundV,Bool.and_eq_true] at h2
 exact ⟨m,by have:=DVal.depth_part hp;omega,List.all_eq_true.1 h2.2 p hp⟩
theorem RS.part {v p:DSch} (h:RS v) (hp:p∈v.parts):RS p:=by
 obtain ⟨m,h1,h2⟩:=h
 obtain ⟨m,rfl⟩:∃ n,m=n+1:=⟨m - 1,by have:=v.depth_pos;omega⟩
 rw [soundS,Bool.and_eq_true] at h2
 exact ⟨m,by have:=DSch.depth_part hp;omega,List.all_eq_true.1 h2.2 p hp⟩
theorem RV.here {v:DVal} (h:RV v):(v.kind ≠ 5→v.names.length=0)∧(v.kind ≠ 6→v.ids.length=0)∧v.parts.length=v.names.length+v.ids.length:=by
 obtain ⟨m,h1,h2⟩:=h
 obtain ⟨m,rfl⟩:∃ n,m=n+1:=⟨m - 1,by have:=v.depth_pos;omega⟩
 rw [soundV,Bool.and_eq_true,hereV,Bool.and_eq_true,Bool.and_eq_true,Bool.not_eq_true',Bool.not_eq_true',decide_eq_false_iff_not,decide_eq_false_iff_not] at h2
 have h3:=h2.1.1.1
 have h4:=h2.1.1.2
 unfold bad1 at h3
 unfold bad2 at h4
 omega
theorem RS.here {s:DSch} (h:RS s):(s.kind=5→s.parts.length=s.words.length)∧(s.kind=6→s.parts.length=1):=by
 obtain ⟨m,h1,h2⟩:=h
 obtain ⟨m,rfl⟩:∃ n,m=n+1:=⟨m - 1,by have:=s.depth_pos;omega⟩
 rw [soundS,Bool.and_eq_true,hereS,Bool.and_eq_true,Bool.and_eq_true,decide_eq_true_eq] at h2
 have h3:=h2.1.2.1
 unfold wantS at h3
 exact ⟨fun h=>by rw [if_pos h] at h3;exact h3,fun h=>by rw [if_neg (by omega),if_pos h] at h3;exact h3⟩
def headF (v:DVal) (s:DSch):Bool:=decide (v.kind=s.kind) && ((!decide (v.kind=4) || decide (v.s∈s.words)) && (!decide (v.kind=5) || decide (v.names=s.words)))
def atF (s:DSch) (i:Nat):Nat:=if s.kind=6 then 0 else i
def fitsV:Nat→DVal→DSch→Bool
 | 0,_,_=>true
 | k+1,v,s=>headF v s && (List.range v.parts.length).all fun i=>fitsV k (v.parts.getD i default) (s.parts.getD (atF s i) default)
theorem atF_lt {v:DVal} {s:DSch} (hv:RV v) (hs:RS s) (h:headF v s=true) {i:Nat} (hi:i<v.parts.length):atF s i<s.parts.length:=by
 have h1:=hv.here
 have h2:=hs.here
 rw [headF,Bool.and_eq_true,decide_eq_true_eq,Bool.and_eq_true] at h
 obtain ⟨hk,_,hn⟩:=h
 unfold atF
 by_cases h6:s.kind=6
 ·rw [if_pos h6,h2.2 h6];omega
 ·rw [if_neg h6]
  by_cases h5:v.kind=5
  ·rw [h5] at hn
   have:v.names=s.words:=by simpa using hn
   rw [h2.1 (by omega),← this];omega
  ·omega
theorem RV.of_right {v:DVal} (h:rightV 5 v=true):RV v:=⟨v.depth,Nat.le_refl _,by
 have:=right_soundV 5 v v.depth (Nat.le_refl _)
 rw [h] at this
 exact (Bool.and_eq_true _ _ ▸ this.symm).2⟩
def rowOb (S:St) (own:Own) (e:TypeId) (n:Nat):Nat→Option Ob:=fun k=>match own with
 | .row g=>if k=g then some (.row e n) else S.ob k
 | _=>S.ob k
theorem row_sub {S:St} (hS:S.WF) {e:TypeId} {own:Own} {i n:Nat} (h:(i=0∧own=.full)∨(0<i∧∃ g,own=.row g∧S.next≤g∧g<n)) (hn:S.next≤n):S.Sub ⟨n,rowOb S own e i⟩:=⟨hn,fun k o hk=>by
 rcases h with ⟨_,rfl⟩ | ⟨_,g,rfl,h1,_⟩
 ·exact hk
 ·have:=hS.lt hk
  show (if k=g then _ else _)=_
  rw [if_neg (by omega)]
  exact hk⟩
theorem closed_slV (l:List DVal):(D.sl .no (l.map encV)).closed:=by
 simp only [D.closed,D.all,Own.all]
 exact ⟨trivial,by rw [← encVs_map];exact closed_encVs l⟩
theorem row_next {S:St} (hS:S.WF) {e:TypeId} {own:Own} {i n:Nat} (h:(i=0∧own=.full)∨(0<i∧∃ g,own=.row g∧S.next≤g∧g<n)) (hn:S.next≤n) (o1 o2:Ob) (m:Nat) :
  ∀ k o,rowOb S (.row (n+1)) e m k=some o→(((St.add ⟨n,rowOb S own e i⟩ o1).set n o2).grow own e m).ob k=some o:=fun k o hk=>by
 by_cases h1:k=n+1
 ·subst h1
  simp only [rowOb,if_true] at hk
  rcases h with ⟨_,rfl⟩ | ⟨_,g,rfl,_,_⟩
  ·rw [grow_full_ob,set_next,add_next,if_pos rfl,hk]
  ·rw [grow_row_ob,set_next,add_next,if_pos rfl,hk]
 ·simp only [rowOb,if_neg h1] at hk
  have h2:=hS.lt hk
  rcases h with ⟨_,rfl⟩ | ⟨_,g,rfl,h3,h4⟩
  ·rw [grow_full_ob,set_next,add_next,if_neg h1,set_ob,add_ob,if_neg (by omega)]
   show (if k=n then _ else rowOb S .full e i k)=_
   rw [if_neg (by omega)]
   exact hk
  ·rw [grow_row_ob,set_next,add_next,if_neg h1,if_neg (by omega),set_ob,add_ob,if_neg (by omega)]
   show (if k=n then _ else rowOb S (.row g) e i k)=_
   rw [if_neg (by omega)]
   show (if k=g then _ else _)=_
   rw [if_neg (by omega)]
   exact hk
structure LC (l:List DVal) (S:St) (f:Fm) (T:St) (i:Nat) (own:Own):Prop where
 st:T.ob=rowOb S own 43 i
 nx:S.next≤T.next
 ow:(i=0∧own=.full)∨(0<i∧∃ g,own=.row g∧S.next≤g∧g<T.next)
 s1:f 1=.fn (.func 56) [] []
 s5:f 5=.sl own ((l.take i).map encV)
 s8:f 8=.sl .no (l.map encV)
 s9:f 9=.v (.int .i64 l.length)
 s10:f 10=.v (.int .i64 i)
 le:i≤l.length
def LCE (l:List DVal) (S:St) (f:Fm) (T:St):Prop:=∃ i own,LC l S f T i own
set_option maxRecDepth 200000 in
set_option maxHeartbeats 4000000 in
theorem copyParts_d (l:List DVal) (hl:l.length≤1000000) (h:∀ p∈l,DPure Tryz.prog 56 [encV p] (encV p)):DPure Tryz.prog 81 [.sl .no (l.map encV),.fn (.func 56) [] []] (.sl .no (l.map encV)):=by
 refine dpure_of_dwp mixed Tryz.func81 rfl (fun _ _=>by kernel_rfl) (rs:=[.tmp 4]) rfl (by kernel_rfl) (closed_slV l) (fun S hS=>?_)
 simp only [go_sem,add_ob,set_ob]
 refine dloop_mk (LCE l S) (fun f _=>l.length - slotN (f 10)) ⟨0,.full,⟨rfl,Nat.le_refl _,.inl ⟨rfl,rfl⟩,by simp only [go_sem,add_ob,set_ob],by simp only [go_sem,add_ob,set_ob],by simp only [go_sem,add_ob,set_ob],by simp only [go_sem,add_ob,set_ob],by simp only [go_sem,add_ob,set_ob];rfl,by omega⟩⟩ ?_
 rintro g ⟨tn,tob⟩ ⟨i,own,q⟩
 obtain rfl:tob=rowOb S own 43 i:=q.st
 have nx:S.next≤tn:=q.nx
 by_cases hlt:i<l.length
 ·have b1:decide ((i:Int)<(l.length:Int))=true:=by simp;omega
  have hx:=getD_map encV l i hlt
  have c1:(0:Int)≤(i:Int):=by omega
  have c2:(i:Int)<(l.length:Int):=by omega
  have w1:IntKind.i64.wrap ((i:Int)+1)=(i:Int)+1:=IntWalk.i64_in _ ⟨by omega,by omega⟩
  simp only [go_sem,add_ob,set_ob,q.s1,q.s5,q.s8,q.s9,q.s10,b1,hx,c1,c2]
  refine DCalls.of_pure (h l[i] (List.getElem_mem hlt)) ?_
  simp only [go_sem,add_ob,set_ob,q.s1,q.s5,q.s8,q.s9,q.s10,w1]
  refine ⟨⟨by rfl,fun d hd=>by rw [List.mem_singleton] at hd;subst hd;exact ⟨okCell_encV _,cells_encV _⟩⟩,dapp_row ?_⟩
  simp only [go_sem,add_ob,set_ob,q.s1,q.s5,q.s8,q.s9,q.s10,w1]
  have hlt2:(l.take i).length=i:=by rw [List.length_take];omega
  have hsub0:S.Sub ⟨tn,rowOb S own 43 i⟩:=row_sub hS q.ow nx
  refine ⟨rfl,fun d hd=>?_,fun d hd=>?_,?_,by omega,by omega,?_⟩
  ·obtain ⟨p,_,rfl⟩:=List.mem_map.1 hd;exact cells_encV _
  ·rw [List.mem_singleton] at hd;subst hd;exact cells_encV _
  ·rcases q.ow with ⟨rfl,rfl⟩ | ⟨h0,g',rfl,hg1,hg2⟩
   ·trivial
   ·have e2:(g':Nat) ≠ tn:=by have hg:g'<tn:=hg2;omega
    simp only [e2,if_false,rowOb,if_true,hlt2]
  ·refine round_back (rowOb S (.row (tn+1)) 43 (i+1)) ?_ ⟨i+1,.row (tn+1),⟨rfl,?_,.inr ⟨by omega,_,rfl,by omega,?_⟩,by simp only [go_sem,add_ob,set_ob,q.s1],?_,by simp only [go_sem,add_ob,set_ob,q.s8],by simp only [go_sem,add_ob,set_ob,q.s9],by simp only [go_sem,add_ob,set_ob];rfl,by omega⟩⟩ (by simp only [go_sem,add_ob,set_ob];omega)
   ·rw [hlt2];exact row_next hS q.ow nx _ _ _
   ·show S.next≤_
    simp only [grow_next,set_next,add_next];omega
   ·simp only [grow_next,set_next,add_next];omega
   ·simp only [go_sem,add_ob,set_ob]
    rw [List.take_succ_eq_append_getElem hlt,List.map_append]
    rfl
 ·have b1:decide ((i:Int)<(l.length:Int))=false:=by simp;omega
  simp only [go_sem,add_ob,set_ob,q.s1,q.s5,q.s8,q.s9,q.s10,b1]
  have hi:i=l.length:=by have:=q.le;omega
  exact ⟨by rw [hi,List.take_length];simp only [D.frz,frz_mapV],row_sub hS q.ow nx⟩
theorem partsLen (v:DVal):v.parts.length≤DVal.weights v.parts:=by
 have:∀ l:List DVal,l.length≤DVal.weights l:=fun l=>by
  induction l with
  | nil=>exact Nat.zero_le _
  | cons p l ih=>simp only [DVal.weights,List.length_cons];have:=p.weight_eq;omega
 exact this _
set_option maxRecDepth 200000 in
set_option maxHeartbeats 4000000 in
theorem copyV_d (k:Nat):∀ (v:DVal),v.depth≤k→v.weight≤1000000→DPure Tryz.prog 56 [encV v] (encV v):=by
 induction k with
 | zero=>intro v h;have:=v.depth_pos;omega
 | succ k ih =>
  intro v hk hw
  have hwe:=v.weight_eq
  have hpl:=partsLen v
  have hparts:=copyParts_d v.parts (by omega) fun p hp=>ih p (by have:=DVal.depth_part hp;omega) (by have:=DVal.weight_part hp;omega)
  refine dpure_of_dwp mixed Tryz.func56 rfl (fun _ _=>by kernel_rfl) (rs:=[.cell 2 43]) rfl (by kernel_rfl) (closed_encV v) (fun S hS=>?_)
  simp only [go_sem,add_ob,set_ob,encV_eq v]
  refine ddraw_mk 7 (by kernel_rfl) ?_
  simp only [go_sem,add_ob,set_ob]
  refine ⟨⟨rfl,(fun d hd=>by cases hd),(fun d hd=>by obtain ⟨p,_,rfl⟩:=List.mem_map.1 hd;rfl),by omega,by omega⟩,⟨rfl,(fun d hd=>by cases hd),(fun d hd=>by obtain ⟨p,_,rfl⟩:=List.mem_map.1 hd;rfl),by omega,by omega⟩,?_⟩
  refine DCalls.of_pure hparts ?_
  simp only [go_sem,add_ob,set_ob]
  refine ⟨?_,?_⟩
  ·simp only [D.frz,frzL,frz_strs,frz_u64s,frz_mapV,strD]
  ·exact ((((((St.Sub.refl S).add hS _).add hS _).set hS (Nat.le_refl _) _).set hS (Nat.le_refl _) _).set hS (Nat.le_refl _) _).set hS (by omega) _
def ixN {α:Type} [DecidableEq α] (l:List α) (x:α):Nat:=l.idxOf x
def ixI {α:Type} [DecidableEq α] (l:List α) (x:α):Int:=if x∈l then (ixN l x:Int) else -1
theorem ix_lt {α:Type} [DecidableEq α] {l:List α} {x:α} (h:x∈l):ixN l x<l.length:=List.idxOf_lt_length_of_mem h
theorem idxP_ix {α:Type} [DecidableEq α] {l:List α} {x:α} {e:Ending} (h:IdxP (fun i=>decide (l[i]? = some x)) l.length e):e=.returned (.int .i64 (ixI l x)):=by
 rcases h with ⟨k,hk,rfl,h1,h2⟩ | ⟨rfl,h2⟩
 ·have hx:l[k]=x:=by
   have:=of_decide_eq_true h1
   rw [List.getElem?_eq_getElem hk] at this
   exact Option.some.inj this
  have hm:x∈l:=hx ▸ List.getElem_mem hk
  have hi:ixN l x=k:=by
   show l.findIdx (· == x)=k
   rw [List.findIdx_eq hk]
   refine ⟨by simp [hx],fun j hj=>?_⟩
   have:=of_decide_eq_false (h2 j hj)
   rw [List.getElem?_eq_getElem (by omega)] at this
   simp only [beq_eq_false_iff_ne,ne_eq]
   exact fun e=>this (by rw [e])
  rw [ixI,if_pos hm,hi]
 ·have hm:¬ x∈l:=fun hm=>by
   obtain ⟨j,hj,e⟩:=List.getElem_of_mem hm
   have:=of_decide_eq_false (h2 j hj)
   rw [List.getElem?_eq_getElem hj,e] at this
   exact this rfl
  rw [ixI,if_neg hm]
theorem strIndex_d (own:Own) (l:List Str) (x:Str) (hn:l.length≤140737488351232):DPure Tryz.prog 105 [.sl own (l.map strD),.v (sv x)] (.v (.int .i64 (ixI l x))) :=
 dpure_of_gives (fun _ _=>by kernel_rfl) fun w η X vs hr=>by
  simp only [RepL] at hr
  obtain ⟨y,ys,rfl,h1,z,zs,rfl,h2,rfl⟩:=hr
  obtain ⟨A,c,rfl,hc,hf⟩:=strArg h1
  simp only [Rep] at h2
  subst h2
  exact (strIndex_calls l x A c w hf hn).mono fun e w' ⟨he,hw⟩=>⟨idxP_ix he,hw ▸ Below.refl _ _⟩
theorem pfin_cell_tmp_ret {P:Program} {S:St} {f:Fm} (x:Tmp) (t:TypeId) (u:Tmp) (S':St) (d:D):DQ.pfin P [.cell x t,.tmp u] S d .ret f S'=dcellR P S' t (f x) (fun r=>PFin S S' (.tup [r,f u]) d):=by
 rw [← onVal_cell]
 simp [DQ.pfin,dresL,dres,onVal,one]
attribute [go_sem] pfin_cell_tmp_ret
abbrev DStp:=Str × Nat
theorem fin_cell_ret {P:Program} {S:St} {f:Fm} {K:D→St→Prop} (x:Tmp) (t:TypeId) (S':St):DQ.fin P [.cell x t] S K .ret f S'=dcellR P S' t (f x) (fun r=>DFinT P S S' r K):=onVal_cell x t _
attribute [go_sem] fin_cell_ret
theorem fin_pure {S T:St} (hS:S.WF) {d:D} (hc:d.closed) (hs:S.Sub T):DFin S T d (fun d' T'=>d'=d∧T'=S) :=
 ⟨d,S,DLe.refl _,D.all_mono (fun _ h=>h.elim) hc,hs.next,Nat.le_refl _,fun k o hk=>⟨hs.ob k o hk,hS.lt hk,fun _ _ _=>.inl hk⟩,rfl,rfl⟩
theorem idx_of_first {α:Type} [DecidableEq α] {l:List α} {i:Nat} (hi:i<l.length) (h:∀ j (hj:j<i),l[j]'(by omega) ≠ l[i]):ixN l l[i]=i:=by
 show l.findIdx (· == l[i])=i
 rw [List.findIdx_eq hi]
 exact ⟨by simp,fun j hj=>by simpa using h j hj⟩
theorem ixI_first {α:Type} [DecidableEq α] {l:List α} {x:α} {i:Nat} (hi:i<l.length) (hx:l[i]=x) (hno:∀ j (hj:j<i),l[j]'(by omega) ≠ x):ixI l x=(i:Int):=by
 subst hx
 rw [ixI,if_pos (List.getElem_mem hi),idx_of_first hi hno]
theorem ixI_none {α:Type} [DecidableEq α] {l:List α} {x:α} (hno:∀ j (hj:j<l.length),l[j] ≠ x):ixI l x=-1:=by
 rw [ixI,if_neg]
 intro hm
 obtain ⟨j,hj,e⟩:=List.getElem_of_mem hm
 exact hno j hj e
theorem strContains_d (own:Own) (l:List Str) (x:Str) (hn:l.length≤140737488351232):DPure Tryz.prog 152 [.sl own (l.map strD),.v (sv x)] (.v (.bool (decide (x∈l)))) :=
 dpure_of_gives (fun _ _=>by kernel_rfl) fun w η X vs hr=>by
  simp only [RepL] at hr
  obtain ⟨y,ys,rfl,h1,z,zs,rfl,h2,rfl⟩:=hr
  obtain ⟨A,c,rfl,hc,hf⟩:=strArg h1
  simp only [Rep] at h2
  subst h2
  exact (strContains_calls l x A c w hf hn).mono fun e w' ⟨he,hw⟩=>⟨he,hw ▸ Below.refl _ _⟩
theorem strEqual_d (own own2:Own) (l m:List Str) (hn:l.length≤140737488351232) (hm:m.length≤140737488351232):DPure Tryz.prog 141 [.sl own (l.map strD),.sl own2 (m.map strD)] (.v (.bool (decide (l=m)))) :=
 dpure_of_gives (fun _ _=>by kernel_rfl) fun w η X vs hr=>by
  simp only [RepL] at hr
  obtain ⟨y,ys,rfl,h1,z,zs,rfl,h2,rfl⟩:=hr
  obtain ⟨A,c,rfl,hc,hf⟩:=strArg h1
  obtain ⟨A2,c2,rfl,hc2,hf2⟩:=strArg h2
  exact strEqual_calls l m A A2 c c2 w hf hf2 hn hm
def fitsSt (v:DVal) (s:DSch) (S:St):St:=(S.add (.box 43 [.v (.int .i64 v.kind),.v (.int .i64 v.n),strD v.s,.sl .no (v.names.map strD),.sl .no (v.ids.map u64D),.sl .no (v.parts.map encV)])).add (.box 25 [.v (.int .i64 s.kind),.sl .no (s.words.map strD),.sl .no (s.parts.map encS)])
theorem fits_sub {S:St} (hS:S.WF) (v:DVal) (s:DSch) {n:Nat} (hn:S.next+2≤n):S.Sub ⟨n,(fitsSt v s S).ob⟩ :=
 ⟨by show S.next≤n;omega,(((St.Sub.refl S).add hS _).add hS _).ob⟩
theorem fits_back {S:St} (hS:S.WF) (v:DVal) (s:DSch) {n:Nat} (hn:S.next+2≤n) (o o2:Ob):∀ k o',(fitsSt v s S).ob k=some o'→((St.add ⟨n,(fitsSt v s S).ob⟩ o).set n o2).ob k=some o':=fun k o' h=>by
 have hk:k ≠ n:=fun e=>by
  subst e
  simp only [fitsSt,add_ob,add_next] at h
  rw [if_neg (by omega),if_neg (by omega),hS k (by omega)] at h
  cases h
 simp only [set_ob,add_ob]
 rw [if_neg hk,if_neg hk]
 exact h
structure FCut (v:DVal) (s:DSch) (S:St) (f:Fm) (T:St):Prop where
 st:T=fitsSt v s S
 s2:f 2=.loc S.next 0
 s3:f 3=.loc (S.next+1) 0
 s38:f 38=.v (.bool (!headF v s))
structure LF (k:Nat) (v:DVal) (s:DSch) (S:St) (f:Fm) (T:St) (i:Nat):Prop where
 st:T.ob=(fitsSt v s S).ob
 nx:S.next+2≤T.next
 s2:f 2=.loc S.next 0
 s3:f 3=.loc (S.next+1) 0
 s40:f 40=.sl .no (v.parts.map encV)
 s41:f 41=.v (.int .i64 v.parts.length)
 s42:f 42=.v (.int .i64 i)
 le:i≤v.parts.length
 ok:∀ j,j<i→fitsV k (v.parts.getD j default) (s.parts.getD (atF s j) default)=true
def LFE (k:Nat) (v:DVal) (s:DSch) (S:St) (f:Fm) (T:St):Prop:=∃ i,LF k v s S f T i
set_option maxRecDepth 200000 in
set_option maxHeartbeats 8000000 in
theorem fits_d (k:Nat):∀ (v:DVal) (s:DSch),v.depth≤k→okV v→okS s→RV v→RS s→DPure Tryz.prog 144 [encV v,encS s] (.v (.bool (fitsV k v s))):=by
 induction k with
 | zero=>intro v s h;have:=v.depth_pos;omega
 | succ k ih =>
  intro v s hk hov hos hv hs
  obtain ⟨o1,o2,o3,o4,o5,o6,o7,o8,o9⟩:=(okV_eq v).1 hov
  obtain ⟨p1,p2,p3,p4,p5⟩:=(okS_eq s).1 hos
  refine dpure_of_dwp mixed Tryz.func144 rfl (fun _ _=>by kernel_rfl) (rs:=[.tmp 4]) rfl (by kernel_rfl) trivial (fun S hS=>?_)
  simp only [go_sem,add_ob,set_ob,encV_eq v,encS_eq s]
  refine cut_guard (FCut v s S) rfl ?_ ?_
  ·intro f T h
   obtain rfl:=h.st
   cases hh:headF v s with
   | false =>
    simp only [go_sem,add_ob,set_ob,h.s38,hh]
    exact ⟨by rw [fitsV,hh];rfl,((St.Sub.refl S).add hS _).add hS _⟩
   | true =>
    simp only [go_sem,add_ob,set_ob,h.s38,hh,h.s2,h.s3,fitsSt]
    refine dloop_mk (LFE k v s S) (fun f _=>v.parts.length - slotN (f 42)) ⟨0,⟨rfl,Nat.le_refl _,by simp only [go_sem,add_ob,set_ob,h.s2],by simp only [go_sem,add_ob,set_ob,h.s3],by simp only [go_sem,add_ob,set_ob],by simp only [go_sem,add_ob,set_ob],by simp only [go_sem,add_ob,set_ob];rfl,by omega,fun j hj=>by omega⟩⟩ ?_
    rintro g ⟨tn,tob⟩ ⟨i,q⟩
    obtain rfl:tob=(fitsSt v s S).ob:=q.st
    have nx:S.next+2≤tn:=q.nx
    have e1:(S.next=tn)=False:=eq_false (by omega)
    have e2:(S.next+1=tn)=False:=eq_false (by omega)
    have e3:(tn=S.next)=False:=eq_false (by omega)
    have e4:(tn=S.next+1)=False:=eq_false (by omega)
    by_cases hlt:i<v.parts.length
    ·have b1:decide ((i:Int)<(v.parts.length:Int))=true:=by simp;omega
     have hx:=getD_map encV v.parts i hlt
     have c1:(0:Int)≤(i:Int):=by omega
     have c2:(i:Int)<(v.parts.length:Int):=by omega
     have w1:IntKind.i64.wrap ((i:Int)+1)=(i:Int)+1:=IntWalk.i64_in _ ⟨by omega,by omega⟩
     have hat:=atF_lt hv hs hh hlt
     have hy:=getD_map encS s.parts (atF s i) hat
     have c3:(0:Int)≤(atF s i:Int):=by omega
     have c4:(atF s i:Int)<(s.parts.length:Int):=by omega
     have hd:=DVal.depth_part (List.getElem_mem hlt)
     have hfit:fitsV k (v.parts.getD i default) (s.parts.getD (atF s i) default)=fitsV k v.parts[i] s.parts[atF s i]:=by rw [getD_at hlt,getD_at hat]
     have hcall:=ih v.parts[i] s.parts[atF s i] (by omega) (o9 _ (List.getElem_mem hlt)) (p5 _ (List.getElem_mem hat)) (hv.part (List.getElem_mem hlt)) (hs.part (List.getElem_mem hat))
     have hsub:=fits_sub hS v s nx
     have hback:=fits_back hS v s nx
     have next:fitsV k v.parts[i] s.parts[atF s i]=true→∀ j,j<i+1→fitsV k (v.parts.getD j default) (s.parts.getD (atF s j) default)=true:=fun hh j hj=>by
      by_cases e:j=i
      ·rw [e,hfit];exact hh
      ·exact q.ok j (by omega)
     have bad:fitsV k v.parts[i] s.parts[atF s i]=false→fitsV (k+1) v s=false:=fun hb=>by
      simp only [fitsV]
      rw [all_not (p:=fun i=>fitsV k (v.parts.getD i default) (s.parts.getD (atF s i) default)) hlt (by rw [hfit];exact hb),Bool.and_false]
     by_cases h6:s.kind=6
     ·have b6:(s.kind == 6)=true:=by simp [h6]
      have ha:atF s i=0:=by unfold atF;rw [if_pos h6]
      simp only [go_sem,add_ob,set_ob,q.s2,q.s3,q.s40,q.s41,q.s42,b1,hx,c1,c2,fitsSt,e1,e2,e3,e4,b6]
      have hy0:(s.parts.map encS).getD 0 undefD=encS s.parts[atF s i]:=by rw [← hy,ha]
      have c5:(0:Int)<(s.parts.length:Int):=by omega
      have c6:(0:Int)≤0:=Int.le_refl _
      refine ddraw_mk 8 (by kernel_rfl) ?_
      simp only [go_sem,add_ob,set_ob,q.s3,e1,e2,e3,e4,hy0,c5,c6,Int.toNat_zero]
      refine dqgo_mk hcall ?_
      cases hf:fitsV k v.parts[i] s.parts[atF s i] with
      | false =>
       simp only [go_sem,add_ob,set_ob,hf]
       exact ⟨by rw [bad hf];rfl,(hsub.add hS _).set hS (by omega) _⟩
      | true =>
       simp only [go_sem,add_ob,set_ob,hf,q.s42,w1]
       exact round_back (fitsSt v s S).ob (hback _ _) ⟨i+1,⟨rfl,Nat.le_succ_of_le nx,by simp only [go_sem,add_ob,set_ob,q.s2],by simp only [go_sem,add_ob,set_ob,q.s3],by simp only [go_sem,add_ob,set_ob,q.s40],by simp only [go_sem,add_ob,set_ob,q.s41],by simp only [go_sem,add_ob,set_ob];rfl,by omega,next hf⟩⟩ (by simp only [go_sem,add_ob,set_ob];omega)
     ·have b6:(s.kind == 6)=false:=by simp [h6]
      have ha:atF s i=i:=by unfold atF;rw [if_neg h6]
      have hy0:(s.parts.map encS).getD i undefD=encS s.parts[atF s i]:=by rw [← hy,ha]
      have c5:(i:Int)<(s.parts.length:Int):=by omega
      simp only [go_sem,add_ob,set_ob,q.s2,q.s3,q.s40,q.s41,q.s42,b1,hx,c1,c2,fitsSt,e1,e2,e3,e4,b6]
      refine ddraw_mk 8 (by kernel_rfl) ?_
      simp only [go_sem,add_ob,set_ob,q.s3,e1,e2,e3,e4,hy0,c1,c5]
      refine dqgo_mk hcall ?_
      cases hf:fitsV k v.parts[i] s.parts[atF s i] with
      | false =>
       simp only [go_sem,add_ob,set_ob,hf]
       exact ⟨by rw [bad hf];rfl,(hsub.add hS _).set hS (by omega) _⟩
      | true =>
       simp only [go_sem,add_ob,set_ob,hf,q.s42,w1]
       exact round_back (fitsSt v s S).ob (hback _ _) ⟨i+1,⟨rfl,Nat.le_succ_of_le nx,by simp only [go_sem,add_ob,set_ob,q.s2],by simp only [go_sem,add_ob,set_ob,q.s3],by simp only [go_sem,add_ob,set_ob,q.s40],by simp only [go_sem,add_ob,set_ob,q.s41],by simp only [go_sem,add_ob,set_ob];rfl,by omega,next hf⟩⟩ (by simp only [go_sem,add_ob,set_ob];omega)
    ·have b1:decide ((i:Int)<(v.parts.length:Int))=false:=by simp;omega
     simp only [go_sem,add_ob,set_ob,q.s2,q.s3,q.s40,q.s41,q.s42,b1]
     refine ⟨?_,fits_sub hS v s nx⟩
     rw [show fitsV (k+1) v s=true by
      simp only [fitsV,hh,Bool.true_and]
      exact all_of fun j hj=>q.ok j (by omega)]
     rfl
  ·have hbad:headF v s=(decide (v.kind=s.kind) && ((!decide (v.kind=4) || decide (v.s∈s.words)) && (!decide (v.kind=5) || decide (v.names=s.words)))):=rfl
   by_cases hk1:v.kind=s.kind
   ·have b1:(v.kind != s.kind)=false:=by simp [hk1]
    by_cases hk4:v.kind=4
    ·have b4:(v.kind == 4)=true:=by simp [hk4]
     have b5:(v.kind == 5)=false:=by simp [hk4]
     simp only [go_sem,add_ob,set_ob,b1,b4,b5]
     refine DCalls.of_pure (strContains_d .no s.words v.s p3) ?_
     have hb2:headF v s=decide (v.s∈s.words):=by rw [hbad,decide_eq_true hk1,decide_eq_true hk4,decide_eq_false (show ¬ v.kind=5 by omega)];simp
     cases hm:decide (v.s∈s.words) with
     | false=>simp only [go_sem,add_ob,set_ob,b5];exact ⟨rfl,by simp only [go_sem,add_ob,set_ob],by simp only [go_sem,add_ob,set_ob],by simp only [go_sem,add_ob,set_ob,hb2,hm]⟩
     | true=>simp only [go_sem,add_ob,set_ob,b5];exact ⟨rfl,by simp only [go_sem,add_ob,set_ob],by simp only [go_sem,add_ob,set_ob],by simp only [go_sem,add_ob,set_ob,hb2,hm]⟩
    ·have b4:(v.kind == 4)=false:=by simp [hk4]
     by_cases hk5:v.kind=5
     ·have b5:(v.kind == 5)=true:=by simp [hk5]
      simp only [go_sem,add_ob,set_ob,b1,b4,b5]
      refine DCalls.of_pure (strEqual_d .no .no v.names s.words o5 p3) ?_
      have hb2:headF v s=decide (v.names=s.words):=by rw [hbad,decide_eq_true hk1,decide_eq_false hk4,decide_eq_true hk5];simp
      cases hm:decide (v.names=s.words) with
      | false=>simp only [go_sem,add_ob,set_ob];exact ⟨rfl,by simp only [go_sem,add_ob,set_ob],by simp only [go_sem,add_ob,set_ob],by simp only [go_sem,add_ob,set_ob,hb2,hm]⟩
      | true=>simp only [go_sem,add_ob,set_ob];exact ⟨rfl,by simp only [go_sem,add_ob,set_ob],by simp only [go_sem,add_ob,set_ob],by simp only [go_sem,add_ob,set_ob,hb2,hm]⟩
     ·have b5:(v.kind == 5)=false:=by simp [hk5]
      have hb2:headF v s=true:=by rw [hbad,decide_eq_true hk1,decide_eq_false hk4,decide_eq_false hk5];simp
      simp only [go_sem,add_ob,set_ob,b1,b4,b5]
      exact ⟨rfl,by simp only [go_sem,add_ob,set_ob],by simp only [go_sem,add_ob,set_ob],by simp only [go_sem,add_ob,set_ob,hb2]⟩
   ·have b1:(v.kind != s.kind)=true:=by simp [hk1]
    have hb2:headF v s=false:=by rw [hbad,decide_eq_false hk1];rfl
    simp only [go_sem,add_ob,set_ob,b1]
    exact ⟨rfl,by simp only [go_sem,add_ob,set_ob],by simp only [go_sem,add_ob,set_ob],by simp only [go_sem,add_ob,set_ob,hb2]⟩
structure RW (v:DVal) (s:DSch) (S:St) (f:Fm) (T:St) (i:Nat):Prop where
 st:T=fitsSt v s S
 s2:f 2=.loc S.next 0
 s3:f 3=.loc (S.next+1) 0
 s5:f 5=.v (.int .i64 i)
 le:i≤s.words.length
 no:∀ j (h:j<s.words.length),j<i→s.words[j] ≠ v.s
def RWE (v:DVal) (s:DSch) (S:St) (f:Fm) (T:St):Prop:=∃ i,RW v s S f T i
structure RN (k:Nat) (v:DVal) (s:DSch) (S:St) (f:Fm) (T:St) (i:Nat):Prop where
 st:T=fitsSt v s S
 s2:f 2=.loc S.next 0
 s3:f 3=.loc (S.next+1) 0
 s6:f 6=.v (.int .i64 i)
 le:i≤v.names.length
 eq:∀ j (h:j<v.names.length) (h2:j<s.words.length),j<i→v.names[j]=s.words[j]
 ok:∀ j,j<i→fitsV k (v.parts.getD j default) (s.parts.getD (atF s j) default)=true
def RNE (k:Nat) (v:DVal) (s:DSch) (S:St) (f:Fm) (T:St):Prop:=∃ i,RN k v s S f T i
structure RJ (k:Nat) (v:DVal) (s:DSch) (S:St) (f:Fm) (T:St):Prop where
 st:T=fitsSt v s S
 s2:f 2=.loc S.next 0
 s3:f 3=.loc (S.next+1) 0
 eq:v.names=s.words
 ok:∀ j,j<v.parts.length→fitsV k (v.parts.getD j default) (s.parts.getD (atF s j) default)=true
structure RP (k:Nat) (v:DVal) (s:DSch) (S:St) (f:Fm) (T:St) (i:Nat):Prop where
 st:T=fitsSt v s S
 s2:f 2=.loc S.next 0
 s3:f 3=.loc (S.next+1) 0
 s7:f 7=.v (.int .i64 i)
 le:i≤v.parts.length
 ok:∀ j,j<i→fitsV k (v.parts.getD j default) (s.parts.getD (atF s j) default)=true
def RPE (k:Nat) (v:DVal) (s:DSch) (S:St) (f:Fm) (T:St):Prop:=∃ i,RP k v s S f T i
set_option maxRecDepth 200000 in
set_option maxHeartbeats 8000000 in
theorem refFits_d (k:Nat):∀ (v:DVal) (s:DSch),v.depth≤k→okV v→okS s→RV v→RS s→DPure Tryz.prog 96 [encV v,encS s] (.v (.bool (fitsV k v s))):=by
 induction k with
 | zero=>intro v s h;have:=v.depth_pos;omega
 | succ k ih =>
  intro v s hk hov hos hv hs
  obtain ⟨o1,o2,o3,o4,o5,o6,o7,o8,o9⟩:=(okV_eq v).1 hov
  obtain ⟨p1,p2,p3,p4,p5⟩:=(okS_eq s).1 hos
  have hvh:=hv.here
  have hsh:=hs.here
  have hbad:headF v s=(decide (v.kind=s.kind) && ((!decide (v.kind=4) || decide (v.s∈s.words)) && (!decide (v.kind=5) || decide (v.names=s.words)))):=rfl
  refine dpure_of_dwp mixed Tryz.func96 rfl (fun _ _=>by kernel_rfl) (rs:=[.tmp 4]) rfl (by kernel_rfl) trivial (fun S hS=>?_)
  have hsub:S.Sub (fitsSt v s S):=((St.Sub.refl S).add hS _).add hS _
  by_cases hk1:v.kind=s.kind
  ·have b1:(v.kind != s.kind)=false:=by simp [hk1]
   by_cases hk4:v.kind=4
   ·have b4:(v.kind == 4)=true:=by simp [hk4]
    have hb2:headF v s=decide (v.s∈s.words):=by rw [hbad,decide_eq_true hk1,decide_eq_true hk4,decide_eq_false (show ¬ v.kind=5 by omega)];simp
    have hp0:v.parts.length=0:=by omega
    have hfit:fitsV (k+1) v s=decide (v.s∈s.words):=by rw [fitsV,hb2,hp0];simp
    simp only [go_sem,add_ob,set_ob,encV_eq v,encS_eq s,b1,b4]
    refine dloop_mk (RWE v s S) (fun f _=>s.words.length - slotN (f 5)) ⟨0,⟨rfl,by simp only [go_sem,add_ob,set_ob],by simp only [go_sem,add_ob,set_ob],by simp only [go_sem,add_ob,set_ob];rfl,by omega,fun j _ hj=>by omega⟩⟩ ?_
    rintro g T ⟨i,q⟩
    obtain rfl:=q.st
    by_cases hlt:i<s.words.length
    ·have b2:decide ((i:Int)<(s.words.length:Int))=true:=by simp;omega
     have hx:=getD_map strD s.words i hlt
     have c1:(0:Int)≤(i:Int):=by omega
     have c2:(i:Int)<(s.words.length:Int):=by omega
     have w1:IntKind.i64.wrap ((i:Int)+1)=(i:Int)+1:=IntWalk.i64_in _ ⟨by omega,by omega⟩
     simp only [go_sem,add_ob,set_ob,q.s2,q.s3,q.s5,b2,fitsSt]
     refine ddraw_mk 8 (by kernel_rfl) ?_
     simp only [go_sem,add_ob,set_ob,q.s2,q.s3,q.s5,hx,c1,c2]
     by_cases he:s.words[i]=v.s
     ·have b3:(s.words[i] == v.s)=true:=by simp [he]
      simp only [go_sem,add_ob,set_ob,b3]
      exact ⟨by rw [hfit,decide_eq_true (show v.s∈s.words from he ▸ List.getElem_mem hlt)];rfl,hsub⟩
     ·have b3:(s.words[i] == v.s)=false:=by simp [he]
      simp only [go_sem,add_ob,set_ob,b3,q.s5,w1]
      exact round_end ⟨i+1,⟨rfl,by simp only [go_sem,add_ob,set_ob,q.s2],by simp only [go_sem,add_ob,set_ob,q.s3],by simp only [go_sem,add_ob,set_ob];rfl,by omega,fun j hj hji=>by
       by_cases e:j=i
       ·subst e;exact he
       ·exact q.no j hj (by omega)⟩⟩ (by simp only [go_sem,add_ob,set_ob];omega)
    ·have b2:decide ((i:Int)<(s.words.length:Int))=false:=by simp;omega
     simp only [go_sem,add_ob,set_ob,q.s2,q.s3,q.s5,b2,fitsSt]
     exact ⟨by rw [hfit,decide_eq_false (fun hm=>by
      obtain ⟨j,hj,e⟩:=List.getElem_of_mem hm
      exact q.no j hj (by omega) e)];rfl,hsub⟩
   ·have b4:(v.kind == 4)=false:=by simp [hk4]
    by_cases hk5:v.kind=5
    ·have b5:(v.kind == 5)=true:=by simp [hk5]
     have b6:(v.kind == 6)=false:=by simp [hk5]
     have hb2:headF v s=decide (v.names=s.words):=by rw [hbad,decide_eq_true hk1,decide_eq_false hk4,decide_eq_true hk5];simp
     have hpl:v.parts.length=v.names.length:=by omega
     have hsl:s.parts.length=s.words.length:=hsh.1 (by omega)
     have ha:∀ j,atF s j=j:=fun j=>by unfold atF;rw [if_neg (by omega)]
     by_cases hnl:v.names.length=s.words.length
     ·have b7:((v.names.length:Int) != (s.words.length:Int))=false:=by simp [hnl]
      simp only [go_sem,add_ob,set_ob,encV_eq v,encS_eq s,b1,b4,b5,b7]
      refine loop_cut (RJ k v s S) ?_ ?_
      ·refine dloop_mk (RNE k v s S) (fun f _=>v.names.length - slotN (f 6)) ⟨0,⟨rfl,by simp only [go_sem,add_ob,set_ob],by simp only [go_sem,add_ob,set_ob],by simp only [go_sem,add_ob,set_ob];rfl,by omega,fun j _ _ hj=>by omega,fun j hj=>by omega⟩⟩ ?_
       rintro g T ⟨i,q⟩
       obtain rfl:=q.st
       by_cases hlt:i<v.names.length
       ·have b2:decide ((i:Int)<(v.names.length:Int))=true:=by simp;omega
        have hlw:i<s.words.length:=by omega
        have hlp:i<v.parts.length:=by omega
        have hls:i<s.parts.length:=by omega
        have hx1:=getD_map strD v.names i hlt
        have hx2:=getD_map strD s.words i hlw
        have hx3:=getD_map encV v.parts i hlp
        have hx4:=getD_map encS s.parts i hls
        have c0:(0:Int)≤(i:Int):=by omega
        have c1:(i:Int)<(v.names.length:Int):=by omega
        have c2:(i:Int)<(s.words.length:Int):=by omega
        have c3:(i:Int)<(v.parts.length:Int):=by omega
        have c4:(i:Int)<(s.parts.length:Int):=by omega
        have w1:IntKind.i64.wrap ((i:Int)+1)=(i:Int)+1:=IntWalk.i64_in _ ⟨by omega,by omega⟩
        have hd:=DVal.depth_part (List.getElem_mem hlp)
        have hat:fitsV k (v.parts.getD i default) (s.parts.getD (atF s i) default)=fitsV k v.parts[i] s.parts[i]:=by rw [ha,getD_at hlp,getD_at hls]
        have hcall:=ih v.parts[i] s.parts[i] (by omega) (o9 _ (List.getElem_mem hlp)) (p5 _ (List.getElem_mem hls)) (hv.part (List.getElem_mem hlp)) (hs.part (List.getElem_mem hls))
        simp only [go_sem,add_ob,set_ob,q.s2,q.s3,q.s6,b2,fitsSt]
        refine ddraw_mk 25 (by kernel_rfl) ?_
        by_cases he:v.names[i]=s.words[i]
        ·have b3:(v.names[i] == s.words[i])=true:=by simp [he]
         simp only [go_sem,add_ob,set_ob,q.s2,q.s3,q.s6,hx1,hx2,hx3,hx4,c0,c1,c2,c3,c4,b3]
         refine dqgo_mk hcall ?_
         cases hf:fitsV k v.parts[i] s.parts[i] with
         | false =>
          simp only [go_sem,add_ob,set_ob,hf]
          exact ⟨by rw [show fitsV (k+1) v s=false by
           simp only [fitsV]
           rw [all_not (p:=fun i=>fitsV k (v.parts.getD i default) (s.parts.getD (atF s i) default)) hlp (by rw [hat];exact hf),Bool.and_false]];rfl,hsub⟩
         | true =>
          simp only [go_sem,add_ob,set_ob,hf,q.s6,w1]
          exact round_end ⟨i+1,⟨rfl,by simp only [go_sem,add_ob,set_ob,q.s2],by simp only [go_sem,add_ob,set_ob,q.s3],by simp only [go_sem,add_ob,set_ob];rfl,by omega,fun j hj hj2 hji=>by
           by_cases e:j=i
           ·subst e;exact he
           ·exact q.eq j hj hj2 (by omega),fun j hji=>by
           by_cases e:j=i
           ·rw [e,hat];exact hf
           ·exact q.ok j (by omega)⟩⟩ (by simp only [go_sem,add_ob,set_ob];omega)
        ·have b3:(v.names[i] == s.words[i])=false:=by simp [he]
         simp only [go_sem,add_ob,set_ob,q.s2,q.s3,q.s6,hx1,hx2,hx3,hx4,c0,c1,c2,c3,c4,b3]
         exact ⟨by rw [show fitsV (k+1) v s=false by
          simp only [fitsV]
          rw [hb2,decide_eq_false (fun e=>he (by simp only [e])),Bool.false_and]];rfl,hsub⟩
       ·have b2:decide ((i:Int)<(v.names.length:Int))=false:=by simp;omega
        simp only [go_sem,add_ob,set_ob,q.s2,q.s3,q.s6,b2,fitsSt]
        exact ⟨rfl,by simp only [go_sem,add_ob,set_ob,q.s2],by simp only [go_sem,add_ob,set_ob,q.s3],List.ext_getElem hnl fun j h1 h2=>q.eq j h1 h2 (by omega),fun j hj=>q.ok j (by omega)⟩
      ·intro f T h
       obtain rfl:=h.st
       simp only [go_sem,add_ob,set_ob,h.s2,h.s3,b6,fitsSt]
       exact ⟨by rw [show fitsV (k+1) v s=true by
        simp only [fitsV]
        rw [hb2,decide_eq_true h.eq,Bool.true_and]
        exact all_of fun j hj=>h.ok j hj];rfl,hsub⟩
     ·have b7:((v.names.length:Int) != (s.words.length:Int))=true:=by simp;omega
      simp only [go_sem,add_ob,set_ob,encV_eq v,encS_eq s,b1,b4,b5,b7]
      exact ⟨by rw [show fitsV (k+1) v s=false by
       simp only [fitsV]
       rw [hb2,decide_eq_false (fun e=>hnl (by rw [e])),Bool.false_and]];rfl,hsub⟩
    ·have b5:(v.kind == 5)=false:=by simp [hk5]
     have hb2:headF v s=true:=by rw [hbad,decide_eq_true hk1,decide_eq_false hk4,decide_eq_false hk5];simp
     by_cases hk6:v.kind=6
     ·have b6:(v.kind == 6)=true:=by simp [hk6]
      have hsl:s.parts.length=1:=hsh.2 (by omega)
      have ha:∀ j,atF s j=0:=fun j=>by unfold atF;rw [if_pos (by omega)]
      simp only [go_sem,add_ob,set_ob,encV_eq v,encS_eq s,b1,b4,b5,b6]
      refine dloop_mk (RPE k v s S) (fun f _=>v.parts.length - slotN (f 7)) ⟨0,⟨rfl,by simp only [go_sem,add_ob,set_ob],by simp only [go_sem,add_ob,set_ob],by simp only [go_sem,add_ob,set_ob];rfl,by omega,fun j hj=>by omega⟩⟩ ?_
      rintro g T ⟨i,q⟩
      obtain rfl:=q.st
      by_cases hlt:i<v.parts.length
      ·have b2:decide ((i:Int)<(v.parts.length:Int))=true:=by simp;omega
       have hls:0<s.parts.length:=by omega
       have hx3:=getD_map encV v.parts i hlt
       have hx4:=getD_map encS s.parts 0 hls
       have c0:(0:Int)≤(i:Int):=by omega
       have c3:(i:Int)<(v.parts.length:Int):=by omega
       have c4:(0:Int)<(s.parts.length:Int):=by omega
       have c5:(0:Int)≤0:=Int.le_refl _
       have w1:IntKind.i64.wrap ((i:Int)+1)=(i:Int)+1:=IntWalk.i64_in _ ⟨by omega,by omega⟩
       have hd:=DVal.depth_part (List.getElem_mem hlt)
       have hat:fitsV k (v.parts.getD i default) (s.parts.getD (atF s i) default)=fitsV k v.parts[i] s.parts[0]:=by rw [ha,getD_at hlt,getD_at hls]
       have hcall:=ih v.parts[i] s.parts[0] (by omega) (o9 _ (List.getElem_mem hlt)) (p5 _ (List.getElem_mem hls)) (hv.part (List.getElem_mem hlt)) (hs.part (List.getElem_mem hls))
       simp only [go_sem,add_ob,set_ob,q.s2,q.s3,q.s7,b2,fitsSt]
       refine ddraw_mk 11 (by kernel_rfl) ?_
       simp only [go_sem,add_ob,set_ob,q.s2,q.s3,q.s7,hx3,hx4,c0,c3,c4,c5,Int.toNat_zero]
       refine dqgo_mk hcall ?_
       cases hf:fitsV k v.parts[i] s.parts[0] with
       | false =>
        simp only [go_sem,add_ob,set_ob,hf]
        exact ⟨by rw [show fitsV (k+1) v s=false by
         simp only [fitsV]
         rw [all_not (p:=fun i=>fitsV k (v.parts.getD i default) (s.parts.getD (atF s i) default)) hlt (by rw [hat];exact hf),Bool.and_false]];rfl,hsub⟩
       | true =>
        simp only [go_sem,add_ob,set_ob,hf,q.s7,w1]
        exact round_end ⟨i+1,⟨rfl,by simp only [go_sem,add_ob,set_ob,q.s2],by simp only [go_sem,add_ob,set_ob,q.s3],by simp only [go_sem,add_ob,set_ob];rfl,by omega,fun j hji=>by
         by_cases e:j=i
         ·rw [e,hat];exact hf
         ·exact q.ok j (by omega)⟩⟩ (by simp only [go_sem,add_ob,set_ob];omega)
      ·have b2:decide ((i:Int)<(v.parts.length:Int))=false:=by simp;omega
       simp only [go_sem,add_ob,set_ob,q.s2,q.s3,q.s7,b2,fitsSt]
       exact ⟨by rw [show fitsV (k+1) v s=true by
        simp only [fitsV]
        rw [hb2,Bool.true_and]
        exact all_of fun j hj=>q.ok j (by omega)];rfl,hsub⟩
     ·have b6:(v.kind == 6)=false:=by simp [hk6]
      have hp0:v.parts.length=0:=by omega
      simp only [go_sem,add_ob,set_ob,encV_eq v,encS_eq s,b1,b4,b5,b6]
      exact ⟨by rw [show fitsV (k+1) v s=true by simp only [fitsV];rw [hb2,hp0];rfl];rfl,hsub⟩
  ·have b1:(v.kind != s.kind)=true:=by simp [hk1]
   have hb2:headF v s=false:=by rw [hbad,decide_eq_false hk1];rfl
   simp only [go_sem,add_ob,set_ob,encV_eq v,encS_eq s,b1]
   exact ⟨by rw [show fitsV (k+1) v s=false by simp only [fitsV];rw [hb2];rfl];rfl,hsub⟩
theorem RS.of_right {v:DSch} (h:rightS 5 v=true):soundS v.depth v=true:=by
 have:=right_sound 5 v v.depth (Nat.le_refl _)
 rw [h] at this
 exact (Bool.and_eq_true _ _ ▸ this.symm).2
def fitsTop (v:DVal) (s:DSch):Bool:=rightV 5 v && (rightS 5 s && fitsV v.depth v s)
theorem greatS_d (v:DSch) (hok:okS v):DPure Tryz.prog 8 [encS v] (.v (.bool (decide (roomS 12 v 300<0)))):=dpure_sch hok (fun _ _=>by kernel_rfl) fun w cs h=>greatS_calls v cs w h
theorem schRight_d (v:DSch) (hok:okS v):DPure Tryz.prog 47 [encS v] (.v (.bool (rightS 5 v))):=dpure_sch hok (fun _ _=>by kernel_rfl) fun w cs h=>schRightP_calls v cs w h
theorem refSchRight_d (v:DSch) (hok:okS v) (hd:v.depth≤1000000):DPure Tryz.prog 49 [encS v] (.v (.bool (rightS 5 v))):=dpure_sch hok (fun _ _=>by kernel_rfl) fun w cs h=>refRight_calls 1000000 v cs w hd (Nat.le_refl _) h
set_option maxRecDepth 200000 in
set_option maxHeartbeats 4000000 in
theorem fitsTop_d (v:DVal) (s:DSch) (hov:okV v) (hos:okS s):DPure Tryz.prog 110 [encV v,encS s] (.v (.bool (fitsTop v s))):=by
 refine dpure_of_dwp mixed Tryz.func110 rfl (fun _ _=>by kernel_rfl) (rs:=[.tmp 4]) rfl (by kernel_rfl) trivial (fun S hS=>?_)
 have hsub:=fun o o2=>((St.Sub.refl S).add hS o).add hS o2
 simp only [go_sem,add_ob,set_ob]
 refine DCalls.of_pure (valRight_d v hov) ?_
 cases h1:rightV 5 v with
 | false =>
  simp only [go_sem,add_ob,set_ob]
  exact ⟨by rw [fitsTop,h1];rfl,hsub _ _⟩
 | true =>
  simp only [go_sem,add_ob,set_ob]
  refine DCalls.of_pure (schRight_d s hos) ?_
  cases h2:rightS 5 s with
  | false =>
   simp only [go_sem,add_ob,set_ob]
   exact ⟨by rw [fitsTop,h1,h2];rfl,hsub _ _⟩
  | true =>
   simp only [go_sem,add_ob,set_ob]
   refine DCalls.of_pure (fits_d v.depth v s (Nat.le_refl _) hov hos (RV.of_right h1) ⟨_,Nat.le_refl _,RS.of_right h2⟩) ?_
   simp only [go_sem,add_ob,set_ob]
   exact ⟨by rw [fitsTop,h1,h2];rfl,hsub _ _⟩
set_option maxRecDepth 200000 in
set_option maxHeartbeats 4000000 in
theorem refFitsTop_d (v:DVal) (s:DSch) (hov:okV v) (hos:okS s) (hd:v.depth≤1000000) (hd2:s.depth≤1000000):DPure Tryz.prog 71 [encV v,encS s] (.v (.bool (fitsTop v s))):=by
 refine dpure_of_dwp mixed Tryz.func71 rfl (fun _ _=>by kernel_rfl) (rs:=[.tmp 4]) rfl (by kernel_rfl) trivial (fun S hS=>?_)
 have hsub:=fun o o2=>((St.Sub.refl S).add hS o).add hS o2
 simp only [go_sem,add_ob,set_ob]
 refine DCalls.of_pure (refValRight_d v hov hd) ?_
 cases h1:rightV 5 v with
 | false =>
  simp only [go_sem,add_ob,set_ob]
  exact ⟨by rw [fitsTop,h1];rfl,hsub _ _⟩
 | true =>
  simp only [go_sem,add_ob,set_ob]
  refine DCalls.of_pure (refSchRight_d s hos hd2) ?_
  cases h2:rightS 5 s with
  | false =>
   simp only [go_sem,add_ob,set_ob]
   exact ⟨by rw [fitsTop,h1,h2];rfl,hsub _ _⟩
  | true =>
   simp only [go_sem,add_ob,set_ob]
   refine DCalls.of_pure (refFits_d v.depth v s (Nat.le_refl _) hov hos (RV.of_right h1) ⟨_,Nat.le_refl _,RS.of_right h2⟩) ?_
   simp only [go_sem,add_ob,set_ob]
   exact ⟨by rw [fitsTop,h1,h2];rfl,hsub _ _⟩

theorem ob_hit {S:St} {o:Ob} {k:Nat} (h:k=S.next):(S.add o).ob k=some o:=by rw [add_ob,if_pos h]
theorem ob_skip {S:St} {o:Ob} {k:Nat} (h:k ≠ S.next):(S.add o).ob k=S.ob k:=by rw [add_ob,if_neg h]
theorem ob_set {S:St} {o:Ob} {k j:Nat} (h:j=k):(S.set k o).ob j=some o:=by rw [set_ob,if_pos h]
theorem ob_old {S:St} {o:Ob} {k j:Nat} (h:j ≠ k):(S.set k o).ob j=S.ob j:=by rw [set_ob,if_neg h]
theorem drop_next (S:St) (g:Nat):(S.drop g).next=S.next:=Eq.trans (Eq.refl _) (Eq.refl _)
theorem ob_drop {S:St} {g k:Nat} (h:k ≠ g):(S.drop g).ob k=S.ob k:=by simp only [St.drop,if_neg h]
theorem int_zero:((0:Nat):Int)=0:=Eq.trans (Eq.refl _) (Eq.refl _)
attribute [go_sem] ob_hit ob_skip ob_set ob_old ob_drop drop_next getD_map Int.natCast_nonneg int_zero beq_self_eq_true Int.toNat_zero List.range_zero List.mem_cons List.not_mem_nil or_false forall_eq forall_eq_or_imp false_implies implies_true Option.isSome_some bnd or_true Int.toNat_one Int.le_refl ge_iff_le gt_iff_lt Nat.sub_zero
theorem cells_win_ (k off n c:Nat):(D.win k off n c).cells=[D.win k off n c]:=Eq.trans (Eq.refl _) (Eq.refl _)
theorem okCell_win_ (k off n c:Nat):(D.win k off n c).okCell=true:=Eq.trans (Eq.refl _) (Eq.refl _)
attribute [go_sem] cells_win_ okCell_win_
/-! What is written. -/
def dstOk (W:Nat→Bool):Option Tmp→Bool
 | none=>true
 | some t=>W t
def wrOk (W:Nat→Bool):Code→Bool
 | .region _ ops _=>ops.all fun o=>dstOk W o.dst
 | .seq x y=>wrOk W x && wrOk W y
 | .cond _ x y=>wrOk W x && wrOk W y
 | .block _ c=>wrOk W c
 | .loop c=>wrOk W c
 | _=>true
def Off (W:Nat→Bool) (f f':Fm):Prop:=∀ t,W t=false→f' t=f t
theorem Off.refl (W:Nat→Bool) (f:Fm):Off W f f:=fun _ _=>rfl
theorem Off.trans {W:Nat→Bool} {f g h:Fm} (a:Off W f g) (b:Off W g h):Off W f h:=fun t ht=>(b t ht).trans (a t ht)
theorem Off.put {W:Nat→Bool} {f g:Fm} (a:Off W f g) {dst:Option Tmp} (hd:dstOk W dst=true) (d:D):Off W f (put g dst d):=fun t ht=>by
 rw [put_same (fun e=>by subst e;simp only [dstOk] at hd;rw [hd] at ht;cases ht)]
 exact a t ht
theorem St.WF.add {S:St} (h:S.WF) (o:Ob):(S.add o).WF:=fun k hk=>by
 have hk':S.next+1≤k:=hk
 simp only [St.add]
 rw [if_neg (by omega)]
 exact h k (by omega)
theorem St.WF.set {S:St} (h:S.WF) {k:Nat} (hk:k<S.next) (o:Ob):(S.set k o).WF:=fun j hj=>by
 have hj':S.next≤j:=hj
 simp only [St.set]
 rw [if_neg (by omega)]
 exact h j hj'
theorem St.WF.drop {S:St} (h:S.WF) (g:Nat):(S.drop g).WF:=fun j hj=>by
 have hj':S.next≤j:=hj
 simp only [St.drop]
 split
 ·rfl
 ·exact h j hj'
theorem St.WF.leave {S:St} (h:S.WF) (o:Own):(S.leave o).WF:=by
 cases o with
 | row g=>exact h.drop g
 | no=>exact h
 | full=>exact h
theorem St.WF.grow {S:St} (h:S.WF) (o:Own) (e:TypeId) (n:Nat):(S.grow o e n).WF:=(h.leave o).add _
theorem St.WF.keep {S:St} (h:S.WF) {n:Nat} (hn:S.next≤n):(St.mk n S.ob).WF:=fun k hk=>h k (Nat.le_trans hn hk)
theorem St.Sub.keep {S T:St} (h:S.Sub T) {n:Nat} (hn:T.next≤n):S.Sub ⟨n,T.ob⟩:=⟨Nat.le_trans h.next hn,h.ob⟩
theorem St.Sub.trans {A B C:St} (h:A.Sub B) (k:B.Sub C):A.Sub C:=⟨Nat.le_trans h.next k.next,fun i o hi=>k.ob i o (h.ob i o hi)⟩
theorem DCalls.wf {P:Program} {g:FuncId} {args:List D} {S:St} {K:D→St→Prop} (h:DCalls P g args S K):DCalls P g args S fun d S'=>K d S'∧S'.WF:=fun base η w vs hM hr=>by
 rcases h base η w vs hM hr with ⟨h1,h2⟩ | ⟨d,S',η',v,w',h1,h2,h3,h4⟩
 ·exact .inl ⟨h1,h2.mono fun _ _ ⟨d,S',η',v,h1,h2,h3,h4⟩=>⟨d,S',η',v,⟨h1,h4.mem.fresh⟩,h2,h3,h4⟩⟩
 ·exact .inr ⟨d,S',η',v,w',h1,⟨h2,h4.mem.fresh⟩,h3,h4⟩
theorem DRun.wf {P:Program} {run:List Value→Sem Value} {args:List D} {S:St} {K:D→St→Prop} (h:DRun P run args S K):DRun P run args S fun d S'=>K d S'∧S'.WF:=fun base η w vs hM hr=>by
 obtain ⟨d,S',η',v,w',h1,h2,h3,h4⟩:=h base η w vs hM hr
 exact ⟨d,S',η',v,w',h1,⟨h2,h4.mem.fresh⟩,h3,h4⟩
theorem onVal_and {o:Option (Prop × D)} {K:D→Prop} {p:Prop} (hp:p) (h:onVal o K):onVal o fun d=>K d∧p:=onVal_mono (fun _ hd=>⟨hd,hp⟩) h
section
variable {P : Program} {W : Nat → Bool}
theorem dop_more {f:Fm} {S:St} {ty:TypeId} {op:Op} {K:D→St→Prop} (hS:S.WF) (ho:dop P f S ty op K):dop P f S ty op fun d S'=>K d S'∧S'.WF:=by
 cases op with
 | alloc t=>simp only [dop] at *;exact ⟨ho.1,ho.2,hS.add _⟩
 | box t x=>simp only [dop] at *;exact ⟨ho.1,ho.2,hS.add _⟩
 | store t x y =>
  simp only [dop] at *
  split at ho
  ·split at ho
   ·rename_i k off _ _ t' cs hk
    exact ⟨ho.1,ho.2.1,ho.2.2.1,ho.2.2.2.1,ho.2.2.2.2,hS.set (hS.lt hk) _⟩
   ·exact ho
  ·exact ho
 | call cl =>
  obtain ⟨callee,args,ts⟩:=cl
  cases callee with
  | value x =>
   simp only [dop] at *
   split at ho
   ·exact ho.wf
   ·exact ho
  | invoke r m =>
   simp only [dop] at *
   split at ho
   ·obtain ⟨g,d',h1,h2⟩:=ho
    exact ⟨g,d',h1,h2.wf⟩
   ·exact ho
  | builtin b =>
   by_cases hb:b=.append
   ·subst hb
    simp only [dop] at *
    split at ho
    ·split at ho
     ·rcases ho with ⟨k1,k2,k3,k4,k5,k6,k7,k8⟩ | ⟨k1,k2,k3,k4,k5,k6,k7,k8,k9,k10⟩ | ho
      ·exact .inl ⟨k1,k2,k3,k4,k5,k6,k7,k8,hS.grow _ _ _⟩
      ·exact .inr (.inl ⟨k1,k2,k3,k4,k5,k6,k7,k8,k9,fun c zs e1 e2=>⟨k10 c zs e1 e2,hS.add _⟩⟩)
      ·exact .inr (.inr ho.wf)
     ·exact ho
    ·exact ho.wf
    ·exact ho.wf
    ·exact ho.wf
    ·exact ho
   ·cases b <;> first | exact absurd rfl hb | (simp only [dop] at *;exact onVal_and hS ho) | exact DRun.wf ho
 | makeSlice t x y=>exact DRun.wf ho
 | typeAssert x xt t ok=>exact DRun.wf ho
 | lookup t x i ok=>exact DRun.wf ho
 | makeMap t r=>exact DRun.wf ho
 | mapUpdate t m k x=>exact (DRun.wf ho).mono fun d S' hd=>⟨hd.1.1,hd.1.2,hd.2⟩
 | insert t m k x=>exact (DRun.wf ho).mono fun d S' hd=>⟨hd.1.1,hd.1.2,hd.2⟩
 | _=>simp only [dop] at *;exact onVal_and hS ho
theorem dops_more_n {ops:Array Oper} {Q:Fm→St→Prop}:∀ (n:Nat) (l:List Oper),l.length≤n→(∀ o∈l,dstOk W o.dst=true)→∀ {f:Fm} {S:St},S.WF→dops P ops Q l f S→dops P ops (fun f' S'=>Q f' S'∧S'.WF∧Off W f f') l f S
 | _,[],_,_,f,S,hS,h=>⟨h,hS,Off.refl W f⟩
 | 0,o::l,hn,_,_,_,_,_=>absurd hn (by simp)
 | n+1,o::l,hln,hw,f,S,hS,h=>by
  simp only [List.length_cons] at hln
  rw [dops_cons] at h
  rw [dops_cons]
  have h1:=hw o (by simp)
  have h2:∀ o'∈l,dstOk W o'.dst=true:=fun o' ho=>hw o' (by simp [ho])
  refine dwanted_mono (fun hy=>dbs_mono (fun hy=>?_) (fun hB=>?_) hy) (fun hn=>?_) h
  ·refine dop_mono (fun d S' hk=>?_) (dop_more hS hy)
   refine dops_mono (fun f' S'' hq=>?_) l (dops_more_n n l (by omega) h2 hk.2 hk.1)
   exact ⟨hq.1,hq.2.1,(Off.put (Off.refl W f) h1 d).trans hq.2.2⟩
  ·obtain ⟨dst,op,ty,pos,after,guard⟩:=o
   cases op with
   | buildSlice t m ps =>
    cases l with
    | nil=>exact hB.elim
    | cons o2 r2 =>
     obtain ⟨e,bs,k,b1,b2,b3,b4,b5,b6,b7,b8,b9,b10⟩:=hB
     refine ⟨e,bs,k,b1,b2,b3,b4,b5,b6,b7,b8,b9,dwanted_mono (fun hq=>?_) (fun x=>x) b10⟩
     have h3:=h2 o2 (by simp)
     refine dops_mono (fun f' S'' hq=>?_) r2 (dops_more_n n r2 (by simp only [List.length_cons] at hln;omega) (fun o' ho=>h2 o' (by simp [ho])) hS hq)
     exact ⟨hq.1,hq.2.1,((Off.put (Off.refl W f) h1 _).trans (Off.put (Off.refl W _) h3 _)).trans hq.2.2⟩
   | _=>exact hB.elim
  ·refine dops_mono (fun f' S'' hq=>?_) l (dops_more_n n l (by omega) h2 hS hn)
   exact ⟨hq.1,hq.2.1,(Off.put (Off.refl W f) h1 _).trans hq.2.2⟩
theorem dops_more {ops:Array Oper} {Q:Fm→St→Prop} (l:List Oper) (hw:∀ o∈l,dstOk W o.dst=true) {f:Fm} {S:St} (hS:S.WF) (h:dops P ops Q l f S):dops P ops (fun f' S'=>Q f' S'∧S'.WF∧Off W f f') l f S:=dops_more_n l.length l (Nat.le_refl _) hw hS h
theorem dhead_more {ops:Array Oper} {S:St} (hS:S.WF) {Q:Fm→St→Prop}:∀ (l:List Oper),(∀ o∈l,dstOk W o.dst=true)→∀ {f:Fm} {u:Option Ob},dhead P ops S Q l f u→dhead P ops S (fun f' S'=>Q f' S'∧S'.WF∧Off W f f') l f u
 | [],_,f,u,h=>⟨h,(by cases u with | none=>exact hS | some b=>exact hS.add b),Off.refl W f⟩
 | o::l,hw,f,u,h=>by
  unfold dhead at *
  have h1:=hw o (by simp)
  have h2:∀ o'∈l,dstOk W o'.dst=true:=fun o' ho=>hw o' (by simp [ho])
  have go:∀ (d:D) (u':Option Ob),dhead P ops S Q l (put f o.dst d) u'→dhead P ops S (fun f' S'=>Q f' S'∧S'.WF∧Off W f f') l (put f o.dst d) u':=fun d u' hd =>
   dhead_mono (fun f' S' hq=>⟨hq.1,hq.2.1,(Off.put (Off.refl W f) h1 d).trans hq.2.2⟩) l (dhead_more hS l h2 hd)
  split at h
  ·exact hop_mono (fun d u' hd=>go d u' hd) h
  ·exact dwanted_mono (fun hq=>dquiet_mono (fun d hd=>go d u hd) hq) (go _ u) h
theorem sAny_more {ops:Array Oper} {md:Region.Mode} {Zs:St→Prop} {Q:Fm→St→Prop} (hw:∀ (j:Nat) (o:Oper),ops[j]? = some o→dstOk W o.dst=true):∀ (fuel:Nat) (L:Array Bool) {f:Fm} {S:St},S.WF→sAny P md ops Zs Q fuel L f S→sAny P md ops Zs (fun f' S'=>Q f' S'∧S'.WF∧Off W f f') fuel L f S
 | 0,_,f,_,hS,k=>⟨k.1,k.2,hS,Off.refl W f⟩
 | n+1,L,f,S,hS,k=>by
  refine ⟨fun e=>⟨k.1 e,hS,Off.refl W f⟩,fun i hi=>?_⟩
  have h2:=k.2 i hi
  unfold sOp at *
  cases ho:ops[i]? with
  | none=>rw [ho] at h2;exact sAny_more hw n _ hS h2
  | some o =>
   rw [ho] at h2
   have h1:=hw i o ho
   have go:∀ d (S':St),S'.WF→sAny P md ops Zs Q n (L.setIfInBounds i true) (put f o.dst d) S'→sAny P md ops Zs (fun f' S'=>Q f' S'∧S'.WF∧Off W f f') n (L.setIfInBounds i true) (put f o.dst d) S':=fun d S' hS' hk =>
    sAny_mono (fun f' S' hq=>⟨hq.1,hq.2.1,(Off.put (Off.refl W f) h1 d).trans hq.2.2⟩) _ _ (sAny_more hw n _ hS' hk)
   rcases h2 with ⟨d,e1,e2⟩ | ⟨e1,e2⟩
   ·exact .inl ⟨d,e1,go d S hS e2⟩
   ·refine .inr ⟨e1,e2.imp (fun e2=>dop_mono (fun d S' hk=>⟨hk.1.1,go d S' hk.2 hk.1.2⟩) (dop_more hS e2)) fun e2=>e2.imp (fun e2=>?_) fun ⟨d,q1,q2,q3⟩=>⟨d,q1,q2,go d S hS q3⟩⟩
    unfold dbw at *
    split at e2
    ·obtain ⟨e,b1,b2,b3,b4,b5,b6⟩:=e2
     exact ⟨e,b1,b2,b3,b4,b5,b6.1,go _ _ (hS.add _) b6.2⟩
    ·exact e2.elim
theorem dwp_more:∀ (c:Code) {Q:DQ} {f:Fm} {S:St},wrOk W c=true→S.WF→dwp P c Q f S→dwp P c (fun e f' S'=>Q e f' S'∧S'.WF∧Off W f f') f S:=by
 intro c
 induction c with
 | region id ops draw =>
  intro Q f S hw hS h
  have hw':∀ o∈ops.toList,dstOk W o.dst=true:=fun o ho=>Array.all_eq_true_iff_forall_mem.1 hw o (by simpa using ho)
  cases draw with
  | false=>exact dops_more _ hw' hS h
  | true =>
   rcases h with ⟨n,h1,h2⟩ | ⟨Zs,n,h1,h2,h3⟩
   rotate_left
   ·refine .inr ⟨Zs,n,h1,h2,sAny_mono (fun f' S' hq=>?_) _ _ (sAny_more (W:=W) (fun j o ho=>hw' o (by
     have:=List.mem_of_getElem? (show (ops.toList.take n)[j]? = some o by simpa using ho)
     exact List.mem_of_mem_take this)) _ _ hS h3)⟩
    refine dops_mono (fun f'' S'' hk=>?_) _ (dops_more (W:=W) _ (fun o ho=>hw' o (List.mem_of_mem_drop ho)) hq.2.1 hq.1)
    exact ⟨hk.1,hk.2.1,hq.2.2.trans hk.2.2⟩
   refine .inl ⟨n,h1,dhead_mono (fun f' S' hq=>?_) _ (dhead_more (W:=W) hS _ (fun o ho=>hw' o (List.mem_of_mem_take ho)) h2)⟩
   refine dops_mono (fun f'' S'' hk=>?_) _ (dops_more (W:=W) _ (fun o ho=>hw' o (List.mem_of_mem_drop ho)) hq.2.1 hq.1)
   exact ⟨hk.1,hk.2.1,hq.2.2.trans hk.2.2⟩
 | seq x y ihx ihy =>
  intro Q f S hw hS h
  simp only [wrOk,Bool.and_eq_true] at hw
  refine dwp_mono x (fun e f2 S2 hq=>?_) (ihx hw.1 hS h)
  cases e with
  | normal =>
   refine dwp_mono y (fun e3 f3 S3 h3=>?_) (ihy (Q:=Q) hw.2 hq.2.1 hq.1)
   exact ⟨h3.1,h3.2.1,hq.2.2.trans h3.2.2⟩
  | exit i=>exact hq
  | ret=>exact hq
 | cond g x y ihx ihy =>
  intro Q f S hw hS h
  simp only [wrOk,Bool.and_eq_true] at hw
  unfold dwp at h ⊢
  generalize ev f g=u at h ⊢
  cases u with
  | v u=>cases u with
   | bool b=>exact ⟨fun e=>ihx hw.1 hS (h.1 e),fun e=>ihy hw.2 hS (h.2 e)⟩
   | _=>exact h
  | _=>exact h
 | block id c ih =>
  intro Q f S hw hS h
  refine dwp_mono c (fun e f2 S2 hq=>?_) (ih hw hS h)
  cases e with
  | normal=>exact hq
  | ret=>exact hq
  | exit i =>
   simp only [DQ.block] at *
   cases hb:Nat.beq i id with
   | true=>rw [hb] at hq;exact hq
   | false=>rw [hb] at hq;exact hq
 | loop c ih =>
  intro Q f S hw hS h
  obtain ⟨I,μ,h0,hr⟩:=h
  refine ⟨fun g T=>I g T∧T.WF∧Off W f g,μ,⟨h0,hS,Off.refl W f⟩,fun g T ⟨hI,hT,hg⟩=>?_⟩
  refine dwp_mono c (fun e f2 S2 hq=>?_) (ih hw hT (hr g T hI))
  obtain ⟨hq,hwf,hoff⟩:=hq
  cases e with
  | normal =>
   obtain ⟨S'',⟨s1,s2⟩,s3,s4⟩:=hq
   refine ⟨S'',⟨s1,s2⟩,⟨s3,fun k hk=>?_,hg.trans hoff⟩,s4⟩
   cases ho:S''.ob k with
   | none=>rfl
   | some o=>have:=s2 k o ho;rw [hwf k (by omega)] at this;cases this
  | exit i=>exact ⟨hq,hwf,hg.trans hoff⟩
  | ret=>exact ⟨hq,hwf,hg.trans hoff⟩
 | skip=>intro Q f S _ hS k;exact ⟨k,hS,Off.refl W f⟩
 | label l=>intro Q f S _ hS k;exact ⟨k,hS,Off.refl W f⟩
 | exit i=>intro Q f S _ hS k;exact ⟨k,hS,Off.refl W f⟩
 | ret=>intro Q f S _ hS k;exact ⟨k,hS,Off.refl W f⟩
 | rangeFunc x ps aa b _ _=>intro Q f S _ _ k;exact k.elim
 | scope c _=>intro Q f S _ _ k;exact k.elim
 | goto l=>intro Q f S _ _ k;exact k.elim
 | refuse s=>intro Q f S _ _ k;exact k.elim
def dnextR (I:Nat→Fm→St→Prop) (m:Nat) (f':Fm) (S':St):Prop:=∃ (m':Nat) (ob:Nat→Option Ob),m'<m∧(∀ k o,ob k=some o→S'.ob k=some o)∧I m' f' ⟨S'.next,ob⟩
theorem least_of {p:Nat→Prop} (h:∃ n,p n):∃ n,p n∧∀ m,p m→n≤m:=by
 obtain ⟨n,hn⟩:=h
 induction n using Nat.strongRecOn with
 | _ n ih =>
  by_cases hx:∃ m,m<n∧p m
  ·obtain ⟨m,h1,h2⟩:=hx
   exact ih m h1 h2
  ·refine ⟨n,hn,fun m hm=>?_⟩
   rcases Nat.lt_or_ge m n with h1 | h1
   ·exact absurd ⟨m,h1,hm⟩ hx
   ·exact h1
theorem dloop_down {c:Code} {Q:DQ} {f:Fm} {S:St} (W:Nat→Bool) (hW:wrOk W c=true) (hS:S.WF) (I:Nat→Fm→St→Prop) (m:Nat) (h0:I m f S)
  (hr:∀ m g T,T.WF→Off W f g→I m g T→dwp P c (DQ.then (dnextR I m) Q) g T):DLoop (dwp P c) Q f S:=by
 classical
 let J:Fm→St→Nat→Prop:=fun g T m=>I m g T∧T.WF∧Off W f g
 refine ⟨fun g T=>∃ m,J g T m,fun g T=>if h:∃ m,J g T m then Classical.choose (least_of h) else 0,⟨m,h0,hS,Off.refl W f⟩,fun g T hI=>?_⟩
 have hf:=(Classical.choose_spec (least_of hI)).1
 obtain ⟨h1,h2,h3⟩:=hf
 refine dwp_mono c (fun e f2 S2 hq=>?_) (dwp_more (W:=W) c hW h2 (hr _ g T h2 h3 h1))
 obtain ⟨hq,hwf,hoff⟩:=hq
 cases e with
 | normal =>
  obtain ⟨m',ob,k1,k2,k3⟩:=hq
  have hw2:(St.mk S2.next ob).WF:=fun k hk=>by
   cases ho:ob k with
   | none=>exact ho
   | some o=>have:=k2 k o ho;rw [hwf k hk] at this;cases this
  have hj:J f2 ⟨S2.next,ob⟩ m':=⟨k3,hw2,h3.trans hoff⟩
  refine ⟨⟨S2.next,ob⟩,⟨rfl,k2⟩,⟨m',hj⟩,?_⟩
  show (if h:∃ m,J f2 ⟨S2.next,ob⟩ m then Classical.choose (least_of h) else 0)<(if h:∃ m,J g T m then Classical.choose (least_of h) else 0)
  rw [dif_pos ⟨m',hj⟩,dif_pos hI]
  exact Nat.lt_of_le_of_lt ((Classical.choose_spec (least_of ⟨m',hj⟩)).2 m' hj) k1
 | exit i=>exact hq
 | ret=>exact hq
def dnextU (I:Nat→Fm→St→Prop) (n i:Nat) (f':Fm) (S':St):Prop:=i<n∧∃ ob:Nat→Option Ob,(∀ k o,ob k=some o→S'.ob k=some o)∧I (i+1) f' ⟨S'.next,ob⟩
theorem dloop_up {c:Code} {Q:DQ} {f:Fm} {S:St} (W:Nat→Bool) (hW:wrOk W c=true) (hS:S.WF) (n:Nat) (I:Nat→Fm→St→Prop) (h0:I 0 f S)
  (hr:∀ i g T,T.WF→Off W f g→I i g T→dwp P c (DQ.then (dnextU I n i) Q) g T):DLoop (dwp P c) Q f S:=by
 refine dloop_down W hW hS (fun m g T=>∃ i,m=n - i∧I i g T) (n - 0) ⟨0,rfl,h0⟩ fun m g T hT hg ⟨i,hm,hI⟩=>?_
 subst hm
 refine dwp_mono c (fun e f2 S2 hq=>?_) (hr i g T hT hg hI)
 cases e with
 | normal =>
  obtain ⟨k1,ob,k2,k3⟩:=hq
  exact ⟨n - (i+1),ob,by omega,k2,i+1,rfl,k3⟩
 | exit i=>exact hq
 | ret=>exact hq
def dnextS (S:St) (I:Nat→Fm→Prop) (n i:Nat) (f':Fm) (S':St):Prop:=i<n∧S.Sub S'∧I (i+1) f'
theorem dloop_st {c:Code} {Q:DQ} {f:Fm} {S:St} (W:Nat→Bool) (hW:wrOk W c=true) (hS:S.WF) (n:Nat) (I:Nat→Fm→Prop) (h0:I 0 f)
  (hr:∀ i g tn,S.next≤tn→(St.mk tn S.ob).WF→Off W f g→I i g→dwp P c (DQ.then (dnextS S I n i) Q) g ⟨tn,S.ob⟩):DLoop (dwp P c) Q f S:=by
 refine dloop_up W hW hS n (fun i g T=>S.next≤T.next∧T.ob=S.ob∧I i g) ⟨Nat.le_refl _,rfl,h0⟩ fun i g T hT hg ⟨h1,h2,h3⟩=>?_
 obtain ⟨tn,tob⟩:=T
 have h2':tob=S.ob:=h2
 subst h2'
 refine dwp_mono c (fun e f2 S2 hq=>?_) (hr i g tn h1 hT hg h3)
 cases e with
 | normal=>exact ⟨hq.1,S.ob,hq.2.1.ob,hq.2.1.next,rfl,hq.2.2⟩
 | exit i=>exact hq
 | ret=>exact hq
/-! A row that grows. -/
def rowOf (S:St) (own:Own) (e:TypeId) (n:Nat):Nat→Option Ob:=fun k=>match own with
 | .row g=>if k=g then some (.row e n) else S.ob k
 | _=>S.ob k
def RowOk (lo:Nat) (S:St) (own:Own) (n:Nat):Prop:=own=.full∨∃ g,own=.row g∧lo≤g∧S.ob g=none∧g<n
theorem rowOf_some {lo:Nat} {S:St} {own:Own} {n:Nat} (h:RowOk lo S own n) {e:TypeId} {m k:Nat} {o:Ob} (hk:S.ob k=some o):rowOf S own e m k=some o:=by
 rcases h with rfl | ⟨g,rfl,_,h1,_⟩
 ·exact hk
 ·have:k ≠ g:=fun e=>by subst e;rw [h1] at hk;cases hk
  show (if k=g then _ else _)=_
  rw [if_neg this]
  exact hk
theorem RowOk.sub {lo:Nat} {S:St} {own:Own} {e:TypeId} {m n:Nat} (h:RowOk lo S own n) (hn:S.next≤n):S.Sub ⟨n,rowOf S own e m⟩:=⟨hn,fun k o hk=>rowOf_some h hk⟩
theorem leave_next (S:St) (own:Own):(S.leave own).next=S.next:=by cases own <;> rfl
theorem aI {a b:Prop} (h:b) (ha:a:=by with_reducible first | omega | assumption | rfl):a∧b:=⟨ha,h⟩
theorem nx:(∀ (S:St) (o:Ob),(S.add o).next=S.next+1)∧(∀ (S:St) (k:Nat) (o:Ob),(S.set k o).next=S.next)∧(∀ (S:St) (own:Own) (e:TypeId) (n:Nat),(S.grow own e n).next=S.next+1)∧(∀ (S:St) (own:Own),(S.leave own).next=S.next)∧(∀ (S:St) (g:Nat),(S.drop g).next=S.next)∧(∀ (α β:Type) (f:α→β) (l:List α),(l.map f).length=l.length) :=
 ⟨add_next,set_next,grow_next,leave_next,drop_next,fun _ _ f l=>List.length_map ..⟩
abbrev RowOk.lo {lo:Nat} {S:St} {own:Own} {n:Nat} (_:RowOk lo S own n):Nat:=lo
end
theorem subA {S T:St} (h:S.Sub T:=by (repeat' first | assumption | exact St.Sub.refl _ | exact RowOk.sub (by assumption) (by assumption) | refine St.Sub.trans ?_ (RowOk.sub (by assumption) (by assumption)) | refine St.Sub.add ?_ ?_ _ | refine St.Sub.set ?_ ?_ ?_ _ | refine St.Sub.keep ?_ ?_ | refine St.WF.leave ?_ _ | refine St.WF.add ?_ _ | refine St.WF.set ?_ ?_ _ | refine St.WF.grow ?_ _ _ _ | refine St.WF.keep ?_ ?_ | (first | omega | (simp only [RowOk.lo,nx];first | done | omega)))):S.Sub T:=h
theorem pendL {S S':St} {r d:D} (h:r.frz=d) (hs:S.Sub S':=by exact subA):PFin S S' r d:=⟨h,hs⟩
theorem wfA {S:St} (h:S.WF:=by (repeat' first | assumption | refine St.WF.leave ?_ _ | refine St.WF.add ?_ _ | refine St.WF.set ?_ ?_ _ | refine St.WF.grow ?_ _ _ _ | refine St.WF.keep ?_ ?_ | (first | omega | (simp only [RowOk.lo,nx];first | done | omega)))):S.WF:=h
structure Kp (q:Prop):Prop where
 o:q
theorem dd0 {p q:Prop} (k:q) (h:Kp q→p:=by intro k;simp (disch:=first | decide | omega | (simp only [nx];first | done | omega)) only [go_sem];(repeat with_reducible refine aI ?_);exact k.o):p:=h ⟨k⟩
theorem dd1 {A0 p q:Prop} (a0:A0) (k:q) (h:A0→Kp q→p:=by intro a0 k;simp (disch:=first | decide | omega | (simp only [nx];first | done | omega)) only [go_sem,a0];(repeat with_reducible refine aI ?_);exact k.o):p:=h a0 ⟨k⟩
theorem dd2 {A0 A1 p q:Prop} (a0:A0) (a1:A1) (k:q) (h:A0→A1→Kp q→p:=by intro a0 a1 k;simp (disch:=first | decide | omega | (simp only [nx];first | done | omega)) only [go_sem,a0,a1];(repeat with_reducible refine aI ?_);exact k.o):p:=h a0 a1 ⟨k⟩
theorem dd3 {A0 A1 A2 p q:Prop} (a0:A0) (a1:A1) (a2:A2) (k:q) (h:A0→A1→A2→Kp q→p:=by intro a0 a1 a2 k;simp (disch:=first | decide | omega | (simp only [nx];first | done | omega)) only [go_sem,a0,a1,a2];(repeat with_reducible refine aI ?_);exact k.o):p:=h a0 a1 a2 ⟨k⟩
theorem dd4 {A0 A1 A2 A3 p q:Prop} (a0:A0) (a1:A1) (a2:A2) (a3:A3) (k:q) (h:A0→A1→A2→A3→Kp q→p:=by intro a0 a1 a2 a3 k;simp (disch:=first | decide | omega | (simp only [nx];first | done | omega)) only [go_sem,a0,a1,a2,a3];(repeat with_reducible refine aI ?_);exact k.o):p:=h a0 a1 a2 a3 ⟨k⟩
theorem dd5 {A0 A1 A2 A3 A4 p q:Prop} (a0:A0) (a1:A1) (a2:A2) (a3:A3) (a4:A4) (k:q) (h:A0→A1→A2→A3→A4→Kp q→p:=by intro a0 a1 a2 a3 a4 k;simp (disch:=first | decide | omega | (simp only [nx];first | done | omega)) only [go_sem,a0,a1,a2,a3,a4];(repeat with_reducible refine aI ?_);exact k.o):p:=h a0 a1 a2 a3 a4 ⟨k⟩
theorem dd6 {A0 A1 A2 A3 A4 A5 p q:Prop} (a0:A0) (a1:A1) (a2:A2) (a3:A3) (a4:A4) (a5:A5) (k:q) (h:A0→A1→A2→A3→A4→A5→Kp q→p:=by intro a0 a1 a2 a3 a4 a5 k;simp (disch:=first | decide | omega | (simp only [nx];first | done | omega)) only [go_sem,a0,a1,a2,a3,a4,a5];(repeat with_reducible refine aI ?_);exact k.o):p:=h a0 a1 a2 a3 a4 a5 ⟨k⟩
theorem dd7 {A0 A1 A2 A3 A4 A5 A6 p q:Prop} (a0:A0) (a1:A1) (a2:A2) (a3:A3) (a4:A4) (a5:A5) (a6:A6) (k:q) (h:A0→A1→A2→A3→A4→A5→A6→Kp q→p:=by intro a0 a1 a2 a3 a4 a5 a6 k;simp (disch:=first | decide | omega | (simp only [nx];first | done | omega)) only [go_sem,a0,a1,a2,a3,a4,a5,a6];(repeat with_reducible refine aI ?_);exact k.o):p:=h a0 a1 a2 a3 a4 a5 a6 ⟨k⟩
theorem dd8 {A0 A1 A2 A3 A4 A5 A6 A7 p q:Prop} (a0:A0) (a1:A1) (a2:A2) (a3:A3) (a4:A4) (a5:A5) (a6:A6) (a7:A7) (k:q) (h:A0→A1→A2→A3→A4→A5→A6→A7→Kp q→p:=by intro a0 a1 a2 a3 a4 a5 a6 a7 k;simp (disch:=first | decide | omega | (simp only [nx];first | done | omega)) only [go_sem,a0,a1,a2,a3,a4,a5,a6,a7];(repeat with_reducible refine aI ?_);exact k.o):p:=h a0 a1 a2 a3 a4 a5 a6 a7 ⟨k⟩
theorem dd9 {A0 A1 A2 A3 A4 A5 A6 A7 A8 p q:Prop} (a0:A0) (a1:A1) (a2:A2) (a3:A3) (a4:A4) (a5:A5) (a6:A6) (a7:A7) (a8:A8) (k:q) (h:A0→A1→A2→A3→A4→A5→A6→A7→A8→Kp q→p:=by intro a0 a1 a2 a3 a4 a5 a6 a7 a8 k;simp (disch:=first | decide | omega | (simp only [nx];first | done | omega)) only [go_sem,a0,a1,a2,a3,a4,a5,a6,a7,a8];(repeat with_reducible refine aI ?_);exact k.o):p:=h a0 a1 a2 a3 a4 a5 a6 a7 a8 ⟨k⟩
theorem dd10 {A0 A1 A2 A3 A4 A5 A6 A7 A8 A9 p q:Prop} (a0:A0) (a1:A1) (a2:A2) (a3:A3) (a4:A4) (a5:A5) (a6:A6) (a7:A7) (a8:A8) (a9:A9) (k:q) (h:A0→A1→A2→A3→A4→A5→A6→A7→A8→A9→Kp q→p:=by intro a0 a1 a2 a3 a4 a5 a6 a7 a8 a9 k;simp (disch:=first | decide | omega | (simp only [nx];first | done | omega)) only [go_sem,a0,a1,a2,a3,a4,a5,a6,a7,a8,a9];(repeat with_reducible refine aI ?_);exact k.o):p:=h a0 a1 a2 a3 a4 a5 a6 a7 a8 a9 ⟨k⟩
theorem dd11 {A0 A1 A2 A3 A4 A5 A6 A7 A8 A9 A10 p q:Prop} (a0:A0) (a1:A1) (a2:A2) (a3:A3) (a4:A4) (a5:A5) (a6:A6) (a7:A7) (a8:A8) (a9:A9) (a10:A10) (k:q) (h:A0→A1→A2→A3→A4→A5→A6→A7→A8→A9→A10→Kp q→p:=by intro a0 a1 a2 a3 a4 a5 a6 a7 a8 a9 a10 k;simp (disch:=first | decide | omega | (simp only [nx];first | done | omega)) only [go_sem,a0,a1,a2,a3,a4,a5,a6,a7,a8,a9,a10];(repeat with_reducible refine aI ?_);exact k.o):p:=h a0 a1 a2 a3 a4 a5 a6 a7 a8 a9 a10 ⟨k⟩
theorem dd12 {A0 A1 A2 A3 A4 A5 A6 A7 A8 A9 A10 A11 p q:Prop} (a0:A0) (a1:A1) (a2:A2) (a3:A3) (a4:A4) (a5:A5) (a6:A6) (a7:A7) (a8:A8) (a9:A9) (a10:A10) (a11:A11) (k:q) (h:A0→A1→A2→A3→A4→A5→A6→A7→A8→A9→A10→A11→Kp q→p:=by intro a0 a1 a2 a3 a4 a5 a6 a7 a8 a9 a10 a11 k;simp (disch:=first | decide | omega | (simp only [nx];first | done | omega)) only [go_sem,a0,a1,a2,a3,a4,a5,a6,a7,a8,a9,a10,a11];(repeat with_reducible refine aI ?_);exact k.o):p:=h a0 a1 a2 a3 a4 a5 a6 a7 a8 a9 a10 a11 ⟨k⟩
theorem dd13 {A0 A1 A2 A3 A4 A5 A6 A7 A8 A9 A10 A11 A12 p q:Prop} (a0:A0) (a1:A1) (a2:A2) (a3:A3) (a4:A4) (a5:A5) (a6:A6) (a7:A7) (a8:A8) (a9:A9) (a10:A10) (a11:A11) (a12:A12) (k:q) (h:A0→A1→A2→A3→A4→A5→A6→A7→A8→A9→A10→A11→A12→Kp q→p:=by intro a0 a1 a2 a3 a4 a5 a6 a7 a8 a9 a10 a11 a12 k;simp (disch:=first | decide | omega | (simp only [nx];first | done | omega)) only [go_sem,a0,a1,a2,a3,a4,a5,a6,a7,a8,a9,a10,a11,a12];(repeat with_reducible refine aI ?_);exact k.o):p:=h a0 a1 a2 a3 a4 a5 a6 a7 a8 a9 a10 a11 a12 ⟨k⟩
theorem dd14 {A0 A1 A2 A3 A4 A5 A6 A7 A8 A9 A10 A11 A12 A13 p q:Prop} (a0:A0) (a1:A1) (a2:A2) (a3:A3) (a4:A4) (a5:A5) (a6:A6) (a7:A7) (a8:A8) (a9:A9) (a10:A10) (a11:A11) (a12:A12) (a13:A13) (k:q) (h:A0→A1→A2→A3→A4→A5→A6→A7→A8→A9→A10→A11→A12→A13→Kp q→p:=by intro a0 a1 a2 a3 a4 a5 a6 a7 a8 a9 a10 a11 a12 a13 k;simp (disch:=first | decide | omega | (simp only [nx];first | done | omega)) only [go_sem,a0,a1,a2,a3,a4,a5,a6,a7,a8,a9,a10,a11,a12,a13];(repeat with_reducible refine aI ?_);exact k.o):p:=h a0 a1 a2 a3 a4 a5 a6 a7 a8 a9 a10 a11 a12 a13 ⟨k⟩
theorem dx1 {A0 p:Prop} (a0:A0) (h:A0→p:=by intro a0;(simp (disch:=first | decide | omega | (simp only [nx];first | done | omega)) only [go_sem,a0];(repeat with_reducible refine aI ?_));first | done | exact rfl | omega):p:=h a0
theorem dx2 {A0 A1 p:Prop} (a0:A0) (a1:A1) (h:A0→A1→p:=by intro a0 a1;(simp (disch:=first | decide | omega | (simp only [nx];first | done | omega)) only [go_sem,a0,a1];(repeat with_reducible refine aI ?_));first | done | exact rfl | omega):p:=h a0 a1
theorem dx3 {A0 A1 A2 p:Prop} (a0:A0) (a1:A1) (a2:A2) (h:A0→A1→A2→p:=by intro a0 a1 a2;(simp (disch:=first | decide | omega | (simp only [nx];first | done | omega)) only [go_sem,a0,a1,a2];(repeat with_reducible refine aI ?_));first | done | exact rfl | omega):p:=h a0 a1 a2
theorem dx4 {A0 A1 A2 A3 p:Prop} (a0:A0) (a1:A1) (a2:A2) (a3:A3) (h:A0→A1→A2→A3→p:=by intro a0 a1 a2 a3;(simp (disch:=first | decide | omega | (simp only [nx];first | done | omega)) only [go_sem,a0,a1,a2,a3];(repeat with_reducible refine aI ?_));first | done | exact rfl | omega):p:=h a0 a1 a2 a3
theorem dx5 {A0 A1 A2 A3 A4 p:Prop} (a0:A0) (a1:A1) (a2:A2) (a3:A3) (a4:A4) (h:A0→A1→A2→A3→A4→p:=by intro a0 a1 a2 a3 a4;(simp (disch:=first | decide | omega | (simp only [nx];first | done | omega)) only [go_sem,a0,a1,a2,a3,a4];(repeat with_reducible refine aI ?_));first | done | exact rfl | omega):p:=h a0 a1 a2 a3 a4
theorem dx6 {A0 A1 A2 A3 A4 A5 p:Prop} (a0:A0) (a1:A1) (a2:A2) (a3:A3) (a4:A4) (a5:A5) (h:A0→A1→A2→A3→A4→A5→p:=by intro a0 a1 a2 a3 a4 a5;(simp (disch:=first | decide | omega | (simp only [nx];first | done | omega)) only [go_sem,a0,a1,a2,a3,a4,a5];(repeat with_reducible refine aI ?_));first | done | exact rfl | omega):p:=h a0 a1 a2 a3 a4 a5
theorem dx7 {A0 A1 A2 A3 A4 A5 A6 p:Prop} (a0:A0) (a1:A1) (a2:A2) (a3:A3) (a4:A4) (a5:A5) (a6:A6) (h:A0→A1→A2→A3→A4→A5→A6→p:=by intro a0 a1 a2 a3 a4 a5 a6;(simp (disch:=first | decide | omega | (simp only [nx];first | done | omega)) only [go_sem,a0,a1,a2,a3,a4,a5,a6];(repeat with_reducible refine aI ?_));first | done | exact rfl | omega):p:=h a0 a1 a2 a3 a4 a5 a6
theorem dx8 {A0 A1 A2 A3 A4 A5 A6 A7 p:Prop} (a0:A0) (a1:A1) (a2:A2) (a3:A3) (a4:A4) (a5:A5) (a6:A6) (a7:A7) (h:A0→A1→A2→A3→A4→A5→A6→A7→p:=by intro a0 a1 a2 a3 a4 a5 a6 a7;(simp (disch:=first | decide | omega | (simp only [nx];first | done | omega)) only [go_sem,a0,a1,a2,a3,a4,a5,a6,a7];(repeat with_reducible refine aI ?_));first | done | exact rfl | omega):p:=h a0 a1 a2 a3 a4 a5 a6 a7
theorem dx10 {A0 A1 A2 A3 A4 A5 A6 A7 A8 A9 p:Prop} (a0:A0) (a1:A1) (a2:A2) (a3:A3) (a4:A4) (a5:A5) (a6:A6) (a7:A7) (a8:A8) (a9:A9) (h:A0→A1→A2→A3→A4→A5→A6→A7→A8→A9→p:=by intro a0 a1 a2 a3 a4 a5 a6 a7 a8 a9;(simp (disch:=first | decide | omega | (simp only [nx];first | done | omega)) only [go_sem,a0,a1,a2,a3,a4,a5,a6,a7,a8,a9];(repeat with_reducible refine aI ?_));first | done | exact rfl | omega):p:=h a0 a1 a2 a3 a4 a5 a6 a7 a8 a9
theorem dx11 {A0 A1 A2 A3 A4 A5 A6 A7 A8 A9 A10 p:Prop} (a0:A0) (a1:A1) (a2:A2) (a3:A3) (a4:A4) (a5:A5) (a6:A6) (a7:A7) (a8:A8) (a9:A9) (a10:A10) (h:A0→A1→A2→A3→A4→A5→A6→A7→A8→A9→A10→p:=by intro a0 a1 a2 a3 a4 a5 a6 a7 a8 a9 a10;(simp (disch:=first | decide | omega | (simp only [nx];first | done | omega)) only [go_sem,a0,a1,a2,a3,a4,a5,a6,a7,a8,a9,a10];(repeat with_reducible refine aI ?_));first | done | exact rfl | omega):p:=h a0 a1 a2 a3 a4 a5 a6 a7 a8 a9 a10
theorem dx12 {A0 A1 A2 A3 A4 A5 A6 A7 A8 A9 A10 A11 p:Prop} (a0:A0) (a1:A1) (a2:A2) (a3:A3) (a4:A4) (a5:A5) (a6:A6) (a7:A7) (a8:A8) (a9:A9) (a10:A10) (a11:A11) (h:A0→A1→A2→A3→A4→A5→A6→A7→A8→A9→A10→A11→p:=by intro a0 a1 a2 a3 a4 a5 a6 a7 a8 a9 a10 a11;(simp (disch:=first | decide | omega | (simp only [nx];first | done | omega)) only [go_sem,a0,a1,a2,a3,a4,a5,a6,a7,a8,a9,a10,a11];(repeat with_reducible refine aI ?_));first | done | exact rfl | omega):p:=h a0 a1 a2 a3 a4 a5 a6 a7 a8 a9 a10 a11
theorem di0 {p:Prop} (h:p:=by first | (simp (disch:=first | decide | omega | (simp only [nx];first | done | omega)) only [go_sem];first | done | rfl) | rfl):p:=h
theorem di1 {A0 p:Prop} (a0:A0) (h:A0→p:=by intro a0;first | (simp (disch:=first | decide | omega | (simp only [nx];first | done | omega)) only [go_sem,a0];first | done | rfl) | rfl):p:=h a0
theorem di2 {A0 A1 p:Prop} (a0:A0) (a1:A1) (h:A0→A1→p:=by intro a0 a1;first | (simp (disch:=first | decide | omega | (simp only [nx];first | done | omega)) only [go_sem,a0,a1];first | done | rfl) | rfl):p:=h a0 a1
theorem di3 {A0 A1 A2 p:Prop} (a0:A0) (a1:A1) (a2:A2) (h:A0→A1→A2→p:=by intro a0 a1 a2;first | (simp (disch:=first | decide | omega | (simp only [nx];first | done | omega)) only [go_sem,a0,a1,a2];first | done | rfl) | rfl):p:=h a0 a1 a2
theorem di4 {A0 A1 A2 A3 p:Prop} (a0:A0) (a1:A1) (a2:A2) (a3:A3) (h:A0→A1→A2→A3→p:=by intro a0 a1 a2 a3;first | (simp (disch:=first | decide | omega | (simp only [nx];first | done | omega)) only [go_sem,a0,a1,a2,a3];first | done | rfl) | rfl):p:=h a0 a1 a2 a3
theorem di5 {A0 A1 A2 A3 A4 p:Prop} (a0:A0) (a1:A1) (a2:A2) (a3:A3) (a4:A4) (h:A0→A1→A2→A3→A4→p:=by intro a0 a1 a2 a3 a4;first | (simp (disch:=first | decide | omega | (simp only [nx];first | done | omega)) only [go_sem,a0,a1,a2,a3,a4];first | done | rfl) | rfl):p:=h a0 a1 a2 a3 a4
theorem di6 {A0 A1 A2 A3 A4 A5 p:Prop} (a0:A0) (a1:A1) (a2:A2) (a3:A3) (a4:A4) (a5:A5) (h:A0→A1→A2→A3→A4→A5→p:=by intro a0 a1 a2 a3 a4 a5;first | (simp (disch:=first | decide | omega | (simp only [nx];first | done | omega)) only [go_sem,a0,a1,a2,a3,a4,a5];first | done | rfl) | rfl):p:=h a0 a1 a2 a3 a4 a5
section
variable {P : Program} {md : Region.Mode} {Zs : St → Prop} {f : Fm}
theorem stk {Q:Fm→St→Prop} (i:Nat) {l:List Oper} {dst:Option Tmp} {op:Op} {ty:TypeId} {pos:String} {aft:Array Edge} {fuel:Nat} {L:Array Bool} {f:Fm} {S:St} {v:D}
 (hq:∀ S,Zs S→dquietR P f S ty op v) (h:sAny P md (List.toArray l) Zs Q fuel (L.setIfInBounds i true) (put f dst v) S) (hi:nth l i=some ⟨dst,op,ty,pos,aft,none⟩:=by exact rfl) (hr:(Region.ready md (List.toArray l) L).contains i=true:=by kernel_rfl) (hf:Region.free md (List.toArray l) L i=true:=by kernel_rfl):sAny P md (List.toArray l) Zs Q (fuel+1) L f S:=s_take i hi hr hf hq h
theorem s_one {Q:Fm→St→Prop} (i:Nat) {l:List Oper} {dst:Option Tmp} {op:Op} {ty:TypeId} {pos:String} {aft:Array Edge} {fuel:Nat} {L:Array Bool} {f:Fm} {S:St} (h:dop P f S ty op fun d S'=>Zs S'∧sAny P md (List.toArray l) Zs Q fuel (L.setIfInBounds i true) (put f dst d) S')
 (hr:Region.ready md (List.toArray l) L=[i]:=by kernel_rfl) (hi:nth l i=some ⟨dst,op,ty,pos,aft,none⟩:=by exact rfl):sAny P md (List.toArray l) Zs Q (fuel+1) L f S :=
 s_split [i] hr (by simp) fun j hj=>by
  obtain rfl:j=i:=by simpa using hj
  exact s_op hi h
end
theorem pk2 {A0 A1:Prop} (a0:A0) (a1:A1):A0∧A1:=⟨a0,a1⟩
theorem pk3 {A0 A1 A2:Prop} (a0:A0) (a1:A1) (a2:A2):A0∧A1∧A2:=⟨a0,a1,a2⟩
theorem pk4 {A0 A1 A2 A3:Prop} (a0:A0) (a1:A1) (a2:A2) (a3:A3):A0∧A1∧A2∧A3:=⟨a0,a1,a2,a3⟩
theorem pk5 {A0 A1 A2 A3 A4:Prop} (a0:A0) (a1:A1) (a2:A2) (a3:A3) (a4:A4):A0∧A1∧A2∧A3∧A4:=⟨a0,a1,a2,a3,a4⟩
theorem pk7 {A0 A1 A2 A3 A4 A5 A6:Prop} (a0:A0) (a1:A1) (a2:A2) (a3:A3) (a4:A4) (a5:A5) (a6:A6):A0∧A1∧A2∧A3∧A4∧A5∧A6:=⟨a0,a1,a2,a3,a4,a5,a6⟩
theorem pk8 {A0 A1 A2 A3 A4 A5 A6 A7:Prop} (a0:A0) (a1:A1) (a2:A2) (a3:A3) (a4:A4) (a5:A5) (a6:A6) (a7:A7):A0∧A1∧A2∧A3∧A4∧A5∧A6∧A7:=⟨a0,a1,a2,a3,a4,a5,a6,a7⟩
theorem pk10 {A0 A1 A2 A3 A4 A5 A6 A7 A8 A9:Prop} (a0:A0) (a1:A1) (a2:A2) (a3:A3) (a4:A4) (a5:A5) (a6:A6) (a7:A7) (a8:A8) (a9:A9):A0∧A1∧A2∧A3∧A4∧A5∧A6∧A7∧A8∧A9:=⟨a0,a1,a2,a3,a4,a5,a6,a7,a8,a9⟩
theorem dqR {P:Program} {f:Fm} {S:St} {ty:TypeId} {op:Op} {d:D} (h:dquiet P f S ty op fun d'=>d'=d):dquietR P f S ty op d:=by
 obtain ⟨d',h1,rfl⟩:=dquiet_iff.1 h
 exact h1
theorem stq {F:Prop} (F0:F) {P:Program} {md:Region.Mode} {Zs:St→Prop} {Q:Fm→St→Prop} (i:Nat) {l:List Oper} {dst:Option Tmp} {op:Op} {ty:TypeId} {pos:String} {aft:Array Edge} {fuel:Nat} {L:Array Bool} {f:Fm} {S:St} {v:D}
 (h:sAny P md (List.toArray l) Zs Q fuel (L.setIfInBounds i true) (put f dst v) S) (hi:nth l i=some ⟨dst,op,ty,pos,aft,none⟩:=by exact rfl) (hr:(Region.ready md (List.toArray l) L).contains i=true:=by kernel_rfl) (hf:Region.free md (List.toArray l) L i=true:=by kernel_rfl)
 (hq:F→∀ S,Zs S→dquiet P f S ty op (fun d=>d=v):=by intro F0 S hz;(simp (disch:=first | decide | omega | (simp only [nx];first | done | omega)) only [go_sem,F0,hz];(repeat with_reducible refine aI ?_));first | done | exact rfl | omega):sAny P md (List.toArray l) Zs Q (fuel+1) L f S:=s_take i hi hr hf (fun S hz=>dqR (hq F0 S hz)) h
end Go.Proofs.YtogbklnkpjjkoaaGreatDoor
namespace Go.Proofs.YtogbklnkpjjkoaaGreatDoor
open Go.ChangeShapes Go.WideShapes Go.RowKit
theorem door_own:ownKnob Tryz.prog.godebug=none:=by kernel_rfl
theorem door_laidOut:laidOutB Tryz.prog=true:=by kernel_rfl
theorem door_et:Tryz.prog.globalNamed "errors.errorType" = some 0:=by kernel_rfl
theorem door_rt:(Tryz.prog.cutTypes.find? (·.1 == "internal/reflectlite.rtype")).map (·.2)=some 153:=by kernel_rfl
theorem door_row:((List.range Tryz.prog.types.size).filter fun t=>Tryz.prog.rowNamed t [101,114,114,111,114])=[66]:=by kernel_rfl
abbrev doorLaid {H:Type}:List (String × DataW H):=[("errors.errorType",Rows.laid_errors_errorType)]
theorem handle_of_laid {W:World} (h:laidMetH Tryz.prog doorLaid W):W.cell? ⟨0,0,none⟩=some (.iface 153 (.agg #[.pointer (some ⟨1,66,none⟩)])):=by
 have h':laidMet Tryz.prog [] W∧handlesMet Tryz.prog doorLaid W:=h
 obtain ⟨name,u,ty,e1,e2,e3,e4,e5⟩:=h'.2 _ (List.mem_singleton.2 rfl)
 have en:name=[101,114,114,111,114]:=(Option.some.inj e1).symm
 subst en
 obtain rfl:=Option.some.inj (door_rt.symm.trans e2)
 have hm:ty∈(List.range Tryz.prog.types.size).filter fun t=>Tryz.prog.rowNamed t [101,114,114,111,114]:=List.mem_filter.2 ⟨List.mem_range.2 e3,e4⟩
 rw [door_row] at hm
 obtain rfl:=List.mem_singleton.1 hm
 have hh:typeHandle Tryz.prog 66=.pointer (some ⟨1,66,none⟩):=by kernel_rfl
 rw [hh] at e5
 simpa using World.var?_cell door_et e5 0
theorem glob_of_laid {W:World} (h:laidMetH Tryz.prog doorLaid W):GlobOk W.heap.size W:=fun p hp=>by
 have hc:=handle_of_laid h
 have e:p=(0,.iface 153 (.agg #[.pointer (some ⟨1,66,none⟩)])):=List.mem_singleton.1 hp
 subst e
 refine ⟨?_,hc⟩
 rcases Nat.lt_or_ge 0 W.heap.size with h0 | h0
 ·exact h0
 ·exact absurd hc (by simp [World.cell?,Array.getElem?_eq_none h0])
def door_st:St:=⟨0,fun _=>none⟩
section
variable {P : Program}
theorem door_mem (w:World) (hg:GlobOk w.heap.size w):Mem P w.heap.size door_st (fun _=>none) w:=⟨Nat.le_refl _,fun _ _=>rfl,fun _ _=>rfl,(fun _ _ _ h=>by cases h),(fun _ _ _ h=>by cases h),(fun _ _ h=>by cases h),(fun _ _ _ _ h=>by cases h),(fun _ _ _ _ h=>by cases h),hg,fun _ _ _ h=>by cases h⟩
theorem fix_nilD (b i:Nat):Fix P door_st (fun _=>none) b i:=fun _ _ h=>by cases h
theorem door_gives {g:FuncId} {args:List D} {v:Value} (h:DPure P g args (.v v)) {w:World} {vs:List Value} (hr:RepL P w (fun _=>none) (Fix P door_st fun _=>none) args vs) (hent:∀ vs w,(callFunc g vs).run P w=.ok (.enter g vs) w:=by intro _ _;kernel_rfl) (hg:GlobOk w.heap.size w):Calls P g vs.toArray w (Gives v w):=by
 rcases h door_st w.heap.size _ w vs (door_mem w hg) hr with ⟨_,k⟩ | ⟨d,S',η',u,w',k,_⟩
 ·refine k.mono fun _ _ ⟨d,S',η',u,⟨h1,_⟩,h2,h3,h4⟩=>?_
  subst h1
  simp only [Rep] at h3
  subst h3
  exact ⟨h2,h4.below⟩
 ·rw [hent] at k
  injection k with k
  cases k
end
noncomputable def laidWorld (os : Os) : World :=
  let w0 := World.holding Tryz.prog os ⟨#[], #[], []⟩
  { w0 with heap := w0.heap.modify 0 fun
      | .cells _ t frozen => .cells #[.iface 153 (.agg #[.pointer (some ⟨1, 66, none⟩)])] t frozen
      | o => o }
theorem laidWorld_met (os:Os) (args:Array Value):laidMetH Tryz.prog doorLaid ((laidWorld os).forCall (fun _ _=>0) ⟨#[],args,[]⟩).memory :=
 laidMetH_of_parts (laidMet_nil _ _) (by kernel_rfl)
end Go.Proofs.YtogbklnkpjjkoaaGreatDoor
namespace Go.Proofs.YtogbklnkpjjkoaaGreatDoor
open Go.RowKit

mutual
def D.thaw (k:Nat) (es:List D):D→D
 | .agg cs=>.agg (thawL k es cs)
 | .tup cs=>.tup (thawL k es cs)
 | .win j off n c=>bif Nat.beq j k && (Nat.beq off 0 && Nat.beq n es.length) then .sl .no es else .win j off n c
 | .v x=>.v x
 | .fn f fs cs=>.fn f fs cs
 | .ifc t d=>.ifc t d
 | .loc j o=>.loc j o
 | .rd cs o=>.rd cs o
 | .sl o l=>.sl o l
def thawL (k:Nat) (es:List D):List D→List D
 | []=>[]
 | d::l=>d.thaw k es::thawL k es l
end
section
variable {P : Program} {base : Nat} {S : St} {η : Names} {w : World}
theorem win_cells (hM:Mem P base S η w) {k b:Nat} {e:TypeId} {es zs:List D} (hk:S.ob k=some (.box e (flat es++zs))) (hb:η k=some (some b)) (hw:∀ d∈es,d.width=szOf P e) {X:Nat→Nat→Prop} (hX:∀ i,X b i) {w':World} {η':Names} (hE:w'=w) (hK:∀ {l:List D} {vs:List Value},RepL P w η (Fix P S η) l vs→RepL P w' η' X l vs):RepE P w' η' X (szOf P e) es b 0:=by
 subst hE
 obtain ⟨vs,h1,h2,h3⟩:=hM.box k e _ b hk hb
 refine RepE.of_flat hw ?_
 have h4:=RepC.mk (b:=b) (o:=0) (hK h2) (fun j v hj=>by
  rw [Nat.zero_add]
  have:w'.cell? ⟨b,j,none⟩=vs.toArray[j]? := by simp [World.cell?,h1]
  rw [this];simpa using hj) (fun j _=>hX _) h3
 exact h4.left.1
mutual
theorem Rep.thaw (hM:Mem P base S η w) {k:Nat} {e:TypeId} {es zs:List D} (hk:es=[]∨S.ob k=some (.box e (flat es++zs))) (hz:0<szOf P e) (hw:∀ d∈es,d.width=szOf P e):∀ {d:D} {v:Value},Rep P w η (Fix P S η) d v→Rep P w η (Fix P (S.drop k) η) (d.thaw k es) v
 | .v x,v,h=>by simp only [D.thaw];exact (goes_drop hM k).rep h
 | .fn f fs cs,v,h=>by simp only [D.thaw];exact (goes_drop hM k).rep h
 | .ifc t d,v,h=>by simp only [D.thaw];exact (goes_drop hM k).rep h
 | .loc j o,v,h=>by simp only [D.thaw];exact (goes_drop hM k).rep h
 | .rd cs o,v,h=>by simp only [D.thaw];exact (goes_drop hM k).rep h
 | .sl o l,v,h=>by simp only [D.thaw];exact (goes_drop hM k).rep h
 | .agg cs,v,h=>by
  simp only [D.thaw,Rep] at *
  obtain ⟨vs,h1,h2,h3⟩:=h
  exact ⟨vs,h1,RepL.thaw hM hk hz hw h2,h3⟩
 | .tup cs,v,h=>by
  simp only [D.thaw,Rep] at *
  obtain ⟨vs,h1,h2⟩:=h
  exact ⟨vs,h1,RepL.thaw hM hk hz hw h2⟩
 | .win j off n c,v,h=>by
  cases hb:(Nat.beq j k && (Nat.beq off 0 && Nat.beq n es.length)) with
  | false =>
   have e1:(D.win j off n c).thaw k es=.win j off n c:=by simp only [D.thaw,hb,cond_false]
   rw [e1]
   exact (goes_drop hM k).rep h
  | true =>
   rw [Bool.and_eq_true,Bool.and_eq_true] at hb
   have e1:j=k:=Nat.eq_of_beq_eq_true hb.1
   have e4:off=0:=Nat.eq_of_beq_eq_true hb.2.1
   have e2:n=es.length:=Nat.eq_of_beq_eq_true hb.2.2
   subst e1 e2 e4
   have e3:(D.win j 0 es.length c).thaw j es=.sl .no es:=by simp [D.thaw]
   rw [e3]
   obtain ⟨A,h2,h3,h4,h1⟩:=h.win_slice
   simp only [Rep]
   refine ⟨A,c,h2,h3,h4,trivial,fun hpos=>?_⟩
   rcases hk with hk | hk
   ·rw [hk] at hpos;exact absurd hpos (by simp)
   rcases h1 with ⟨b,h1,rfl⟩ | ⟨_,h1,_⟩
   rotate_left
   ·omega
   refine ⟨b,0,szOf P e,rfl,hz,?_⟩
   refine win_cells hM hk h1 hw (fun i k' o hk' ho=>?_) rfl (fun hr=>(goes_drop hM j).repL hr)
   by_cases hkj:k'=j
   ·subst hkj
    simp [St.drop] at ho
   ·simp only [St.drop,if_neg hkj] at ho
    exact absurd (hM.inj k' j b hk' h1 (by rw [ho];rfl) (by rw [hk];rfl)) hkj
theorem RepL.thaw (hM:Mem P base S η w) {k:Nat} {e:TypeId} {es zs:List D} (hk:es=[]∨S.ob k=some (.box e (flat es++zs))) (hz:0<szOf P e) (hw:∀ d∈es,d.width=szOf P e):∀ {l:List D} {vs:List Value},RepL P w η (Fix P S η) l vs→RepL P w η (Fix P (S.drop k) η) (thawL k es l) vs
 | [],vs,h=>by simp only [thawL,RepL] at *;exact h
 | d::l,vs,h=>by
  simp only [thawL,RepL] at *
  obtain ⟨x,xs,h1,h2,h3⟩:=h
  exact ⟨x,xs,h1,Rep.thaw hM hk hz hw h2,RepL.thaw hM hk hz hw h3⟩
end
end
def ownOb (e:TypeId) (es zs:List D) (c:Nat):Ob:=bif Nat.beq c 0 then .row e 0 else .box e (flat es++zs)
theorem ownOb_box {e:TypeId} {es zs:List D} {c:Nat} (h:0<c):ownOb e es zs c=.box e (flat es++zs):=by
 cases c with
 | zero=>omega
 | succ c=>rfl
theorem ownOb_nil (e:TypeId) (es zs:List D):ownOb e es zs 0=.row e 0:=rfl
theorem thaw_own {P:Program} {S:St} {k c:Nat} {e:TypeId} {es zs:List D} (hk:S.ob k=some (ownOb e es zs c)) (hc:es.length≤c) (hz:0<szOf P e) (hw:∀ d∈es,d.width=szOf P e) {d d1:D} (hd:d.thaw k es=d1):Thaw P S d (S.drop k) d1:=fun base η w v hM hr=>by
 refine ⟨η,goes_drop hM k,hd ▸ Rep.thaw (zs:=zs) hM ?_ hz hw hr⟩
 rcases Nat.eq_zero_or_pos c with rfl | h
 ·exact .inl (List.eq_nil_of_length_eq_zero (by omega))
 ·rw [ownOb_box h] at hk
  exact .inr hk
theorem flat_cons (d:D) (l:List D):flat (d::l)=d.cells++flat l:=by simp [flat]
theorem splice_flat:∀ {es:List D} {zs:List D} {z:Nat} (i:Nat) {y:D},i<es.length→(∀ d∈es,d.width=z)→y.width=z→splice (flat es++zs) (0+i * z) y.cells=flat (es.set i y)++zs
 | [],_,_,i,_,h,_,_=>by simp at h
 | d::es,zs,z,0,y,_,hw,hy=>by
  have h1:d.cells.length=z:=hw d (by simp)
  have h2:y.cells.length=z:=hy
  simp only [List.set_cons_zero,flat_cons,splice,Nat.zero_mul,Nat.add_zero,List.take_zero,List.nil_append,Nat.zero_add,h2,List.append_assoc]
  rw [List.drop_append,List.drop_of_length_le (by omega),h1,Nat.sub_self,List.drop_zero,List.nil_append]
 | d::es,zs,z,i+1,y,hi,hw,hy=>by
  have h1:d.cells.length=z:=hw d (by simp)
  have ih:=splice_flat (es:=es) (zs:=zs) (z:=z) i (y:=y) (by simpa using hi) (fun d' hd'=>hw d' (by simp [hd'])) hy
  simp only [List.set_cons_succ,flat_cons,List.append_assoc]
  rw [← ih]
  simp only [splice,Nat.zero_add]
  have e1:(i+1) * z=z+i * z:=by rw [Nat.add_mul];omega
  rw [e1,List.take_append,List.drop_append,h1]
  rw [List.take_of_length_le (l:=d.cells) (by omega),List.drop_of_length_le (l:=d.cells) (by omega)]
  rw [show z+i * z - z=i * z by omega,show z+i * z+y.cells.length - z=i * z+y.cells.length by omega]
  simp [List.append_assoc]
theorem splice_flat' {es zs:List D} {z i:Nat} {y:D} (hi:i<es.length) (hw:∀ d∈es,d.width=z) (hy:y.width=z):List.take (i * z) (flat es++zs)++y.cells++List.drop (i * z+z) (flat es++zs)=flat (es.set i y)++zs:=by
 have:=splice_flat (zs:=zs) i hi hw hy
 rw [← this]
 simp only [splice,Nat.zero_add]
 rw [show y.cells.length=z from hy]
theorem dquietR_of {P:Program} {f:Fm} {S:St} {ty:TypeId} {op:Op} {d:D} (h:dquiet P f S ty op fun d'=>d'=d):dquietR P f S ty op d:=by
 obtain ⟨d',h1,rfl⟩:=dquiet_iff.1 h
 exact h1
theorem gdS0 (s:DSch):(encS s).cells.getD 0 undefD=.v (.int .i64 s.kind):=by rw [encS_eq];exact Eq.trans (Eq.refl _) (Eq.refl _)
theorem gdS1 (s:DSch):(encS s).cells.getD 1 undefD=.sl .no (s.words.map strD):=by rw [encS_eq];exact Eq.trans (Eq.refl _) (Eq.refl _)
theorem gdS2 (s:DSch):(encS s).cells.getD 2 undefD=.sl .no (s.parts.map encS):=by rw [encS_eq];exact Eq.trans (Eq.refl _) (Eq.refl _)
theorem gdV0 (s:DVal):(encV s).cells.getD 0 undefD=.v (.int .i64 s.kind):=by rw [encV_eq];exact Eq.trans (Eq.refl _) (Eq.refl _)
attribute [go_sem] gdS0 gdS1 gdS2 gdV0
theorem drop_encS (s:DSch):(encS s).cells.drop 3=[]:=List.drop_of_length_le (by rw [cells_encS];omega)
theorem take_map_len {α β:Type} (f:α→β) (l:List α):(l.map f).take l.length=l.map f:=List.take_of_length_le (by simp)
attribute [go_sem] drop_encS take_map_len
section
variable {x y : Operand} (a b : DStp) {K : D → Prop} {K' : D → St → Prop} {S : St}
end
theorem refSameV_d (a b:DVal) (hoa:okV a) (hob:okV b):DPure Tryz.prog 45 [encV a,encV b] (.v (.bool (eqB a b))) :=
 dpure_of_gives (fun _ _=>by kernel_rfl) fun w η X vs hr=>by
  simp only [RepL] at hr
  obtain ⟨x,xs,rfl,h1,y,ys,rfl,h2,rfl⟩:=hr
  obtain ⟨cs,rfl,hv⟩:=val_of_rep a.depth a (Nat.le_refl _) hoa h1
  obtain ⟨ds,rfl,hw⟩:=val_of_rep b.depth b (Nat.le_refl _) hob h2
  exact refValSame_calls a.depth a b cs ds w (Nat.le_refl _) hv hw
def zeroS:DSch:=.mk 0 [] []
theorem schCopy_d (s:DSch) (hok:okS s) (hw:s.weight≤1000000):DPure Tryz.prog 44 [encS s] (encS s):=fun S _ η w vs hM hr=>by
 obtain ⟨cs,rfl,hv⟩:=arg_sch hok hr
 exact .inl ⟨by kernel_rfl,(schCopy_calls s.depth s cs w (Nat.le_refl _) hw hv).mono fun _ w' ⟨cs,he,hv,hb⟩=>⟨encS s,_,η,.agg cs.toArray,⟨rfl,rfl⟩,he,rep_sch (F:=fun b=>w.heap.size≤b∧b<w'.heap.size) (fun b i hF k o h1 _=>by have:=(hM.in_ k b h1).2;omega) hv,goes_below hM hb (by intro h;exact absurd h (by decide))⟩⟩
theorem refSameS_d (a b:DSch) (hoa:okS a) (hob:okS b):DPure Tryz.prog 22 [encS a,encS b] (.v (.bool (eqB a b))) :=
 dpure_of_gives (fun _ _=>by kernel_rfl) fun w η X vs hr=>by
  simp only [RepL] at hr
  obtain ⟨x,xs,rfl,h1,y,ys,rfl,h2,rfl⟩:=hr
  obtain ⟨cs,rfl,hv⟩:=sch_of_rep a.depth a (Nat.le_refl _) hoa h1
  obtain ⟨ds,rfl,hw⟩:=sch_of_rep b.depth b (Nat.le_refl _) hob h2
  exact refSchSame_calls a.depth a b cs ds w (Nat.le_refl _) hv hw
def wholeS (s:DSch):Bool:=decide (s.kind=5) && decide (s.words.length≤s.parts.length)
set_option maxRecDepth 200000 in
set_option maxHeartbeats 4000000 in
theorem wholeS_d (s:DSch):DPure Tryz.prog 106 [encS s] (.v (.bool (wholeS s))):=by
 refine dpure_of_dwp mixed Tryz.func106 rfl (fun _ _=>by kernel_rfl) (rs:=[.tmp 2]) rfl (by kernel_rfl) trivial (fun S hS=>?_)
 by_cases h5:s.kind=5
 ·have b5:(s.kind == 5)=true:=by simp [h5]
  (refine dd2 (encS_eq s) @b5 ?_)
  refine pendL ?_
  simp only [D.frz,wholeS,decide_eq_true h5,Bool.true_and]
  congr 3
  exact propext ⟨fun h=>by omega,fun h=>by omega⟩
 ·have b5:(s.kind == 5)=false:=by simp [h5]
  (refine dd2 (encS_eq s) @b5 ?_)
  refine pendL ?_
  simp only [D.frz,wholeS,decide_eq_false h5,Bool.false_and]
set_option maxRecDepth 200000 in
set_option maxHeartbeats 4000000 in
theorem refWholeS_d (s:DSch):DPure Tryz.prog 94 [encS s] (.v (.bool (wholeS s))):=by
 refine dpure_of_dwp mixed Tryz.func94 rfl (fun _ _=>by kernel_rfl) (rs:=[.tmp 2]) rfl (by kernel_rfl) trivial (fun S hS=>?_)
 by_cases h5:s.kind=5
 ·have b5:(s.kind == 5)=true:=by simp [h5]
  (refine dd2 (encS_eq s) @b5 ?_)
  refine pendL ?_
  simp only [D.frz,wholeS,decide_eq_true h5,Bool.true_and]
  congr 3
  exact propext ⟨fun h=>by omega,fun h=>by omega⟩
 ·have b5:(s.kind == 5)=false:=by simp [h5]
  (refine dd2 (encS_eq s) @b5 ?_)
  refine pendL ?_
  simp only [D.frz,wholeS,decide_eq_false h5,Bool.false_and]
set_option maxRecDepth 200000 in
set_option maxHeartbeats 4000000 in
theorem refAt_d (s:DSch) (x:Str) (hw:s.weight≤1000000):DPure Tryz.prog 93 [encS s,.v (sv x)] (.v (.int .i64 (ixI s.words x))):=by
 have hww:=s.words_weight
 refine dpure_of_dwp mixed Tryz.func93 rfl (fun _ _=>by kernel_rfl) (rs:=[.tmp 4]) rfl (by kernel_rfl) trivial (fun S hS=>?_)
 (refine dd1 (encS_eq s) ?_)
 (refine dloop_st (fun t=>List.contains [4,5,6,7,8,9,10,11,12,13,14,15,16,17,18,19,20] t) (by kernel_rfl) ?_ (s.words.length) (fun i f=>i≤s.words.length∧f 5=.v (.int .i64 (i:Nat))∧(∀ j (hj:j<s.words.length),j<i→s.words[j] ≠ x)) ?_ ?_;(exact wfA);(exact ⟨(by omega),(by exact di0),(fun j _ hj=>by omega)⟩);intro i g tn hn hT hg hI;obtain ⟨le,q5,hno⟩:=hI;have q1:=hg 1 rfl;have q2:=hg 2 rfl;simp (disch:=first | decide | omega | (simp only [nx];first | done | omega)) only [go_sem] at q1 q2;clear hg;have hn':=hn;try simp only [add_next,set_next,grow_next,leave_next,drop_next] at hn')
 by_cases hlt:i<s.words.length
 ·have b1:decide ((i:Int)<(s.words.length:Int))=true:=by simp;omega
  have w1:IntKind.i64.wrap ((i:Int)+1)=((i+1:Nat):Int):=IntWalk.i64_in _ ⟨by omega,by omega⟩
  by_cases hx:s.words[i]=x
  ·have b2:(s.words[i] == x)=true:=by simp [hx]
   (refine dd5 @q1 @q2 @q5 @b1 @b2 ?_)
   refine pendL ?_
   rw [ixI_first hlt hx fun j hj=>hno j (by omega) hj]
   rfl
  ·have b2:(s.words[i] == x)=false:=by simp [hx]
   (refine dd6 @q1 @q2 @q5 @b1 @b2 @w1 ?_)
   (refine ⟨by omega,subA,?_⟩;refine ⟨by omega,?_,?_⟩;all_goals (try exact di1 @w1))
   intro j hj hji
   by_cases e:j=i
   ·subst e;exact hx
   ·exact hno j hj (by omega)
 ·have b1:decide ((i:Int)<(s.words.length:Int))=false:=by simp;omega
  (refine dd4 @q1 @q2 @q5 @b1 ?_)
  refine pendL ?_
  rw [ixI_none fun j hj=>hno j hj (by omega)]
  rfl
def fieldS (s:DSch) (x:Str):Option DSch:=if wholeS s=true∧x∈s.words then some (s.parts.getD (ixN s.words x) default) else none
def tupS (o:Option DSch):D:=.tup [encS (o.getD zeroS),.v (.bool o.isSome)]
theorem tupS_closed (o:Option DSch):(tupS o).closed:=by
 simp only [tupS,D.closed,D.all,allL,and_true];exact closed_encS _
theorem frz_tupS (s:DSch) (b:Bool):(D.tup [encS s,.v (.bool b)]).frz=.tup [encS s,.v (.bool b)]:=by simp only [D.frz,frzL,frz_encS]
theorem fieldS_cases {s:DSch} {x:Str} (h:wholeS s=true) (hm:x∈s.words):∃ hpl:ixN s.words x<s.parts.length,fieldS s x=some s.parts[ixN s.words x]:=by
 have h1:=ix_lt hm
 have hpl:ixN s.words x<s.parts.length:=by
  simp only [wholeS,Bool.and_eq_true,decide_eq_true_eq] at h
  omega
 exact ⟨hpl,by rw [fieldS,if_pos ⟨h,hm⟩,getD_at hpl]⟩
set_option maxRecDepth 200000 in
set_option maxHeartbeats 4000000 in
theorem fieldS_d (s:DSch) (x:Str) (hok:okS s) (hw:s.weight≤1000000):DPure Tryz.prog 77 [encS s,.v (sv x)] (tupS (fieldS s x)):=by
 obtain ⟨o1,o2,o3,o4,o5⟩:=(okS_eq s).1 hok
 refine dpure_of_dwp mixed Tryz.func77 rfl (fun _ _=>by kernel_rfl) (rs:=[.cell 4 25,.tmp 5]) rfl (by kernel_rfl) (tupS_closed _) (fun S hS=>?_)
 have ec:=encS_eq s
 (refine dd0 ?_)
 refine DCalls.of_pure (strIndex_d .no s.words x o3) ?_
 (refine dd0 ?_)
 refine DCalls.of_pure (wholeS_d s) ?_
 cases hwb:wholeS s with
 | true =>
  by_cases hm:x∈s.words
  ·have b7:decide (ixI s.words x<0)=false:=by unfold ixI;rw [if_pos hm];simp
   obtain ⟨hpl,hf⟩:=fieldS_cases hwb hm
   have hi:ixI s.words x=(ixN s.words x:Int):=by unfold ixI;rw [if_pos hm]
   have b8:decide ((ixN s.words x:Int)<0)=false:=by simp
   (refine dd2 @hi @b8 ?_)
   refine DCalls.of_pure (schCopy_d s.parts[ixN s.words x] (o5 _ (List.getElem_mem hpl)) (by have:=DSch.weight_part (List.getElem_mem hpl);omega)) ?_
   (refine dd0 ?_)
   refine pendL ?_
   rw [frz_tupS,hf]
   rfl
  ·have b7:decide (ixI s.words x<0)=true:=by unfold ixI;rw [if_neg hm];decide
   (refine dd1 @b7 ?_)
   refine pendL ?_
   rw [fieldS,if_neg (fun h=>hm h.2)]
   rfl
 | false =>
  (refine dd0 ?_)
  refine pendL ?_
  rw [fieldS,if_neg (fun h=>by rw [h.1] at hwb;cases hwb)]
  rfl
set_option maxRecDepth 200000 in
set_option maxHeartbeats 4000000 in
theorem refFieldS_d (s:DSch) (x:Str) (hok:okS s) (hw:s.weight≤1000000):DPure Tryz.prog 67 [encS s,.v (sv x)] (tupS (fieldS s x)):=by
 obtain ⟨o1,o2,o3,o4,o5⟩:=(okS_eq s).1 hok
 refine dpure_of_dwp mixed Tryz.func67 rfl (fun _ _=>by kernel_rfl) (rs:=[.cell 4 25,.tmp 5]) rfl (by kernel_rfl) (tupS_closed _) (fun S hS=>?_)
 (refine dd0 ?_)
 refine DCalls.of_pure (refAt_d s x hw) ?_
 (refine dd0 ?_)
 refine DCalls.of_pure (refWholeS_d s) ?_
 cases hwb:wholeS s with
 | true =>
  by_cases hm:x∈s.words
  ·obtain ⟨hpl,hf⟩:=fieldS_cases hwb hm
   have hi:ixI s.words x=(ixN s.words x:Int):=by unfold ixI;rw [if_pos hm]
   have b8:decide ((ixN s.words x:Int)<0)=false:=by simp
   (refine dd2 @hi @b8 ?_)
   refine pendL ?_
   rw [frz_tupS,hf]
   rfl
  ·have b7:decide (ixI s.words x<0)=true:=by unfold ixI;rw [if_neg hm];decide
   (refine dd1 @b7 ?_)
   refine pendL ?_
   rw [fieldS,if_neg (fun h=>hm h.2)]
   rfl
 | false =>
  (refine dd0 ?_)
  refine pendL ?_
  rw [fieldS,if_neg (fun h=>by rw [h.1] at hwb;cases hwb)]
  rfl
end Go.Proofs.YtogbklnkpjjkoaaGreatDoor
