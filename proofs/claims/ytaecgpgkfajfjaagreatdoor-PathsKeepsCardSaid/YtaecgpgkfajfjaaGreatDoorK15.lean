/- Own work over the model of the kit. -/
import Derived.Test.YtaecgpgkfajfjaaGreatDoorProg
import Derived.Test.YtaecgpgkfajfjaaGreatDoorK4
import Derived.Test.YtaecgpgkfajfjaaGreatDoorK11
set_option linter.unnecessarySimpa false
set_option linter.unusedSimpArgs false
set_option linter.unusedVariables false
set_option maxHeartbeats 1000000
set_option maxRecDepth 8000
namespace Go.AM
private theorem eqk {α:Sort _} {a b:α} (h:a=b):a=b:=Eq.trans h (Eq.refl _)
open Go Go.Proofs
noncomputable def T2:Ty:=(tyOf Tryz.prog 2).getD ⟨false,0,0,none,.bool⟩
@[go_sem] theorem ty2:tyOf Tryz.prog 2=some T2:=eqk (by kernel_rfl)
@[go_sem] theorem T2_agg:T2.agg=false:=eqk (by kernel_rfl)
@[go_sem] theorem T2_size:T2.size=1:=eqk (by kernel_rfl)
@[go_sem] theorem T2_bytes:T2.bytes=8:=eqk (by kernel_rfl)
@[go_sem] theorem T2_want:T2.want=none:=eqk (by kernel_rfl)
@[go_sem] theorem T2_desc:T2.desc=.int .i64:=eqk (by kernel_rfl)
@[go_sem] theorem T2_arr:T2.arr=none:=eqk (by kernel_rfl)
@[go_sem] theorem T2_zero:T2.zero=some (.int .i64 0):=eqk (by kernel_rfl)
@[go_sem] theorem T2_zeroD:zeroD T2=some (.int .i64 0):=eqk (by kernel_rfl)
@[go_sem] theorem T2_zeroElem:zeroElem T2=some (.int .i64 0):=eqk (by kernel_rfl)
@[go_sem ↓] theorem T2_zs:(∃z,T2.zero=some z/\z.cells.size=T2.size)=True:=by
 refine eq_true ⟨_,T2_zero,?_⟩
 kernel_rfl
noncomputable def T3:Ty:=(tyOf Tryz.prog 3).getD ⟨false,0,0,none,.bool⟩
@[go_sem] theorem ty3:tyOf Tryz.prog 3=some T3:=eqk (by kernel_rfl)
@[go_sem] theorem T3_agg:T3.agg=false:=eqk (by kernel_rfl)
@[go_sem] theorem T3_size:T3.size=1:=eqk (by kernel_rfl)
@[go_sem] theorem T3_bytes:T3.bytes=8:=eqk (by kernel_rfl)
@[go_sem] theorem T3_want:T3.want=none:=eqk (by kernel_rfl)
@[go_sem] theorem T3_desc:T3.desc=.int .i64:=eqk (by kernel_rfl)
@[go_sem] theorem T3_arr:T3.arr=none:=eqk (by kernel_rfl)
@[go_sem] theorem T3_zero:T3.zero=some (.int .i64 0):=eqk (by kernel_rfl)
@[go_sem] theorem T3_zeroD:zeroD T3=some (.int .i64 0):=eqk (by kernel_rfl)
@[go_sem] theorem T3_zeroElem:zeroElem T3=some (.int .i64 0):=eqk (by kernel_rfl)
@[go_sem ↓] theorem T3_zs:(∃z,T3.zero=some z/\z.cells.size=T3.size)=True:=by
 refine eq_true ⟨_,T3_zero,?_⟩
 kernel_rfl
noncomputable def T4:Ty:=(tyOf Tryz.prog 4).getD ⟨false,0,0,none,.bool⟩
@[go_sem] theorem ty4:tyOf Tryz.prog 4=some T4:=eqk (by kernel_rfl)
@[go_sem] theorem T4_agg:T4.agg=false:=eqk (by kernel_rfl)
@[go_sem] theorem T4_size:T4.size=1:=eqk (by kernel_rfl)
@[go_sem] theorem T4_bytes:T4.bytes=1:=eqk (by kernel_rfl)
@[go_sem] theorem T4_want:T4.want=none:=eqk (by kernel_rfl)
@[go_sem] theorem T4_desc:T4.desc=.bool:=eqk (by kernel_rfl)
@[go_sem] theorem T4_arr:T4.arr=none:=eqk (by kernel_rfl)
@[go_sem] theorem T4_zero:T4.zero=some (.bool false):=eqk (by kernel_rfl)
@[go_sem] theorem T4_zeroD:zeroD T4=some (.bool false):=eqk (by kernel_rfl)
@[go_sem] theorem T4_zeroElem:zeroElem T4=some (.bool false):=eqk (by kernel_rfl)
@[go_sem ↓] theorem T4_zs:(∃z,T4.zero=some z/\z.cells.size=T4.size)=True:=by
 refine eq_true ⟨_,T4_zero,?_⟩
 kernel_rfl
noncomputable def T5:Ty:=(tyOf Tryz.prog 5).getD ⟨false,0,0,none,.bool⟩
@[go_sem] theorem ty5:tyOf Tryz.prog 5=some T5:=eqk (by kernel_rfl)
@[go_sem] theorem T5_agg:T5.agg=false:=eqk (by kernel_rfl)
@[go_sem] theorem T5_size:T5.size=1:=eqk (by kernel_rfl)
@[go_sem] theorem T5_bytes:T5.bytes=1:=eqk (by kernel_rfl)
@[go_sem] theorem T5_want:T5.want=none:=eqk (by kernel_rfl)
@[go_sem] theorem T5_desc:T5.desc=.int .u8:=eqk (by kernel_rfl)
@[go_sem] theorem T5_arr:T5.arr=none:=eqk (by kernel_rfl)
@[go_sem] theorem T5_zero:T5.zero=some (.int .u8 0):=eqk (by kernel_rfl)
@[go_sem] theorem T5_zeroD:zeroD T5=some (.int .u8 0):=eqk (by kernel_rfl)
@[go_sem] theorem T5_zeroElem:zeroElem T5=some (.int .u8 0):=eqk (by kernel_rfl)
@[go_sem ↓] theorem T5_zs:(∃z,T5.zero=some z/\z.cells.size=T5.size)=True:=by
 refine eq_true ⟨_,T5_zero,?_⟩
 kernel_rfl
noncomputable def T9:Ty:=(tyOf Tryz.prog 9).getD ⟨false,0,0,none,.bool⟩
@[go_sem] theorem ty9:tyOf Tryz.prog 9=some T9:=eqk (by kernel_rfl)
@[go_sem] theorem T9_agg:T9.agg=false:=eqk (by kernel_rfl)
@[go_sem] theorem T9_size:T9.size=1:=eqk (by kernel_rfl)
@[go_sem] theorem T9_bytes:T9.bytes=16:=eqk (by kernel_rfl)
@[go_sem] theorem T9_want:T9.want=none:=eqk (by kernel_rfl)
@[go_sem] theorem T9_desc:T9.desc=.string:=eqk (by kernel_rfl)
@[go_sem] theorem T9_arr:T9.arr=none:=eqk (by kernel_rfl)
@[go_sem] theorem T9_zero:T9.zero=some (.string ⟨#[]⟩):=eqk (by kernel_rfl)
@[go_sem] theorem T9_zeroD:zeroD T9=some (.str []):=eqk (by kernel_rfl)
@[go_sem] theorem T9_zeroElem:zeroElem T9=some (.str []):=eqk (by kernel_rfl)
@[go_sem ↓] theorem T9_zs:(∃z,T9.zero=some z/\z.cells.size=T9.size)=True:=by
 refine eq_true ⟨_,T9_zero,?_⟩
 kernel_rfl
noncomputable def T21:Ty:=(tyOf Tryz.prog 21).getD ⟨false,0,0,none,.bool⟩
@[go_sem] theorem ty21:tyOf Tryz.prog 21=some T21:=eqk (by kernel_rfl)
@[go_sem] theorem T21_agg:T21.agg=false:=eqk (by kernel_rfl)
@[go_sem] theorem T21_size:T21.size=1:=eqk (by kernel_rfl)
@[go_sem] theorem T21_bytes:T21.bytes=4:=eqk (by kernel_rfl)
@[go_sem] theorem T21_want:T21.want=none:=eqk (by kernel_rfl)
@[go_sem] theorem T21_desc:T21.desc=.int .i32:=eqk (by kernel_rfl)
@[go_sem] theorem T21_arr:T21.arr=none:=eqk (by kernel_rfl)
@[go_sem] theorem T21_zero:T21.zero=some (.int .i32 0):=eqk (by kernel_rfl)
@[go_sem] theorem T21_zeroD:zeroD T21=some (.int .i32 0):=eqk (by kernel_rfl)
@[go_sem] theorem T21_zeroElem:zeroElem T21=some (.int .i32 0):=eqk (by kernel_rfl)
@[go_sem ↓] theorem T21_zs:(∃z,T21.zero=some z/\z.cells.size=T21.size)=True:=by
 refine eq_true ⟨_,T21_zero,?_⟩
 kernel_rfl
noncomputable def T22:Ty:=(tyOf Tryz.prog 22).getD ⟨false,0,0,none,.bool⟩
@[go_sem] theorem ty22:tyOf Tryz.prog 22=some T22:=eqk (by kernel_rfl)
@[go_sem] theorem T22_agg:T22.agg=false:=eqk (by kernel_rfl)
@[go_sem] theorem T22_size:T22.size=1:=eqk (by kernel_rfl)
@[go_sem] theorem T22_bytes:T22.bytes=24:=eqk (by kernel_rfl)
@[go_sem] theorem T22_want:T22.want=none:=eqk (by kernel_rfl)
@[go_sem] theorem T22_desc:T22.desc=.slice 50:=eqk (by kernel_rfl)
@[go_sem] theorem T22_arr:T22.arr=none:=eqk (by kernel_rfl)
@[go_sem] theorem T22_zero:T22.zero=some (.slice none 0 0):=eqk (by kernel_rfl)
@[go_sem] theorem T22_zeroD:zeroD T22=some (.sl none []):=eqk (by kernel_rfl)
@[go_sem] theorem T22_zeroElem:zeroElem T22=some (.sl none []):=eqk (by kernel_rfl)
@[go_sem ↓] theorem T22_zs:(∃z,T22.zero=some z/\z.cells.size=T22.size)=True:=by
 refine eq_true ⟨_,T22_zero,?_⟩
 kernel_rfl
noncomputable def T23:Ty:=(tyOf Tryz.prog 23).getD ⟨false,0,0,none,.bool⟩
@[go_sem] theorem ty23:tyOf Tryz.prog 23=some T23:=eqk (by kernel_rfl)
@[go_sem] theorem T23_agg:T23.agg=false:=eqk (by kernel_rfl)
@[go_sem] theorem T23_size:T23.size=1:=eqk (by kernel_rfl)
@[go_sem] theorem T23_bytes:T23.bytes=24:=eqk (by kernel_rfl)
@[go_sem] theorem T23_want:T23.want=none:=eqk (by kernel_rfl)
@[go_sem] theorem T23_desc:T23.desc=.slice 9:=eqk (by kernel_rfl)
@[go_sem] theorem T23_arr:T23.arr=none:=eqk (by kernel_rfl)
@[go_sem] theorem T23_zero:T23.zero=some (.slice none 0 0):=eqk (by kernel_rfl)
@[go_sem] theorem T23_zeroD:zeroD T23=some (.sl none []):=eqk (by kernel_rfl)
@[go_sem] theorem T23_zeroElem:zeroElem T23=some (.sl none []):=eqk (by kernel_rfl)
@[go_sem ↓] theorem T23_zs:(∃z,T23.zero=some z/\z.cells.size=T23.size)=True:=by
 refine eq_true ⟨_,T23_zero,?_⟩
 kernel_rfl
noncomputable def T24:Ty:=(tyOf Tryz.prog 24).getD ⟨false,0,0,none,.bool⟩
@[go_sem] theorem ty24:tyOf Tryz.prog 24=some T24:=eqk (by kernel_rfl)
@[go_sem] theorem T24_agg:T24.agg=false:=eqk (by kernel_rfl)
@[go_sem] theorem T24_size:T24.size=1:=eqk (by kernel_rfl)
@[go_sem] theorem T24_bytes:T24.bytes=24:=eqk (by kernel_rfl)
@[go_sem] theorem T24_want:T24.want=none:=eqk (by kernel_rfl)
@[go_sem] theorem T24_desc:T24.desc=.slice 48:=eqk (by kernel_rfl)
@[go_sem] theorem T24_arr:T24.arr=none:=eqk (by kernel_rfl)
@[go_sem] theorem T24_zero:T24.zero=some (.slice none 0 0):=eqk (by kernel_rfl)
@[go_sem] theorem T24_zeroD:zeroD T24=some (.sl none []):=eqk (by kernel_rfl)
@[go_sem] theorem T24_zeroElem:zeroElem T24=some (.sl none []):=eqk (by kernel_rfl)
@[go_sem ↓] theorem T24_zs:(∃z,T24.zero=some z/\z.cells.size=T24.size)=True:=by
 refine eq_true ⟨_,T24_zero,?_⟩
 kernel_rfl
noncomputable def T26:Ty:=(tyOf Tryz.prog 26).getD ⟨false,0,0,none,.bool⟩
@[go_sem] theorem ty26:tyOf Tryz.prog 26=some T26:=eqk (by kernel_rfl)
@[go_sem] theorem T26_agg:T26.agg=true:=eqk (by kernel_rfl)
@[go_sem] theorem T26_size:T26.size=3:=eqk (by kernel_rfl)
@[go_sem] theorem T26_bytes:T26.bytes=72:=eqk (by kernel_rfl)
@[go_sem] theorem T26_want:T26.want=some 3:=eqk (by kernel_rfl)
@[go_sem] theorem T26_arr:T26.arr=none:=eqk (by kernel_rfl)
@[go_sem] theorem T26_places:placesOf Tryz.prog T26=some [(0,1),(1,1),(2,1)]:=eqk (by kernel_rfl)
@[go_sem] theorem T26_f0:fieldOf Tryz.prog (some T26) 0=some (0,T22):=eqk (by kernel_rfl)
@[go_sem] theorem T26_f1:fieldOf Tryz.prog (some T26) 1=some (1,T23):=eqk (by kernel_rfl)
@[go_sem] theorem T26_f2:fieldOf Tryz.prog (some T26) 2=some (2,T24):=eqk (by kernel_rfl)
@[go_sem] theorem T26_zero:T26.zero=some (.agg #[.slice none 0 0,.slice none 0 0,.slice none 0 0]):=eqk (by kernel_rfl)
@[go_sem] theorem T26_zeroElem:zeroElem T26=some (.agg [.sl none [],.sl none [],.sl none []]):=eqk (by kernel_rfl)
@[go_sem ↓] theorem T26_zs:(∃z,T26.zero=some z/\z.cells.size=T26.size)=True:=by
 refine eq_true ⟨_,T26_zero,?_⟩
 kernel_rfl
noncomputable def T36:Ty:=(tyOf Tryz.prog 36).getD ⟨false,0,0,none,.bool⟩
@[go_sem] theorem ty36:tyOf Tryz.prog 36=some T36:=eqk (by kernel_rfl)
@[go_sem] theorem T36_agg:T36.agg=false:=eqk (by kernel_rfl)
@[go_sem] theorem T36_size:T36.size=1:=eqk (by kernel_rfl)
@[go_sem] theorem T36_bytes:T36.bytes=24:=eqk (by kernel_rfl)
@[go_sem] theorem T36_want:T36.want=none:=eqk (by kernel_rfl)
@[go_sem] theorem T36_desc:T36.desc=.slice 3:=eqk (by kernel_rfl)
@[go_sem] theorem T36_arr:T36.arr=none:=eqk (by kernel_rfl)
@[go_sem] theorem T36_zero:T36.zero=some (.slice none 0 0):=eqk (by kernel_rfl)
@[go_sem] theorem T36_zeroD:zeroD T36=some (.sl none []):=eqk (by kernel_rfl)
@[go_sem] theorem T36_zeroElem:zeroElem T36=some (.sl none []):=eqk (by kernel_rfl)
@[go_sem ↓] theorem T36_zs:(∃z,T36.zero=some z/\z.cells.size=T36.size)=True:=by
 refine eq_true ⟨_,T36_zero,?_⟩
 kernel_rfl
noncomputable def T37:Ty:=(tyOf Tryz.prog 37).getD ⟨false,0,0,none,.bool⟩
@[go_sem] theorem ty37:tyOf Tryz.prog 37=some T37:=eqk (by kernel_rfl)
@[go_sem] theorem T37_agg:T37.agg=false:=eqk (by kernel_rfl)
@[go_sem] theorem T37_size:T37.size=1:=eqk (by kernel_rfl)
@[go_sem] theorem T37_bytes:T37.bytes=24:=eqk (by kernel_rfl)
@[go_sem] theorem T37_want:T37.want=none:=eqk (by kernel_rfl)
@[go_sem] theorem T37_desc:T37.desc=.slice 4:=eqk (by kernel_rfl)
@[go_sem] theorem T37_arr:T37.arr=none:=eqk (by kernel_rfl)
@[go_sem] theorem T37_zero:T37.zero=some (.slice none 0 0):=eqk (by kernel_rfl)
@[go_sem] theorem T37_zeroD:zeroD T37=some (.sl none []):=eqk (by kernel_rfl)
@[go_sem] theorem T37_zeroElem:zeroElem T37=some (.sl none []):=eqk (by kernel_rfl)
@[go_sem ↓] theorem T37_zs:(∃z,T37.zero=some z/\z.cells.size=T37.size)=True:=by
 refine eq_true ⟨_,T37_zero,?_⟩
 kernel_rfl
noncomputable def T46:Ty:=(tyOf Tryz.prog 46).getD ⟨false,0,0,none,.bool⟩
@[go_sem] theorem ty46:tyOf Tryz.prog 46=some T46:=eqk (by kernel_rfl)
@[go_sem] theorem T46_agg:T46.agg=false:=eqk (by kernel_rfl)
@[go_sem] theorem T46_size:T46.size=1:=eqk (by kernel_rfl)
@[go_sem] theorem T46_bytes:T46.bytes=24:=eqk (by kernel_rfl)
@[go_sem] theorem T46_want:T46.want=none:=eqk (by kernel_rfl)
@[go_sem] theorem T46_desc:T46.desc=.slice 65:=eqk (by kernel_rfl)
@[go_sem] theorem T46_arr:T46.arr=none:=eqk (by kernel_rfl)
@[go_sem] theorem T46_zero:T46.zero=some (.slice none 0 0):=eqk (by kernel_rfl)
@[go_sem] theorem T46_zeroD:zeroD T46=some (.sl none []):=eqk (by kernel_rfl)
@[go_sem] theorem T46_zeroElem:zeroElem T46=some (.sl none []):=eqk (by kernel_rfl)
@[go_sem ↓] theorem T46_zs:(∃z,T46.zero=some z/\z.cells.size=T46.size)=True:=by
 refine eq_true ⟨_,T46_zero,?_⟩
 kernel_rfl
noncomputable def T48:Ty:=(tyOf Tryz.prog 48).getD ⟨false,0,0,none,.bool⟩
@[go_sem] theorem ty48:tyOf Tryz.prog 48=some T48:=eqk (by kernel_rfl)
@[go_sem] theorem T48_agg:T48.agg=true:=eqk (by kernel_rfl)
@[go_sem] theorem T48_size:T48.size=4:=eqk (by kernel_rfl)
@[go_sem] theorem T48_bytes:T48.bytes=56:=eqk (by kernel_rfl)
@[go_sem] theorem T48_want:T48.want=some 4:=eqk (by kernel_rfl)
@[go_sem] theorem T48_arr:T48.arr=none:=eqk (by kernel_rfl)
@[go_sem] theorem T48_places:placesOf Tryz.prog T48=some [(0,1),(1,1),(2,1),(3,1)]:=eqk (by kernel_rfl)
@[go_sem] theorem T48_f0:fieldOf Tryz.prog (some T48) 0=some (0,T9):=eqk (by kernel_rfl)
@[go_sem] theorem T48_f1:fieldOf Tryz.prog (some T48) 1=some (1,T3):=eqk (by kernel_rfl)
@[go_sem] theorem T48_f2:fieldOf Tryz.prog (some T48) 2=some (2,T4):=eqk (by kernel_rfl)
@[go_sem] theorem T48_f3:fieldOf Tryz.prog (some T48) 3=some (3,T46):=eqk (by kernel_rfl)
@[go_sem] theorem T48_zero:T48.zero=some (.agg #[.string ⟨#[]⟩,.int .i64 0,.bool false,.slice none 0 0]):=eqk (by kernel_rfl)
@[go_sem] theorem T48_zeroElem:zeroElem T48=some (.agg [.str [],.int .i64 0,.bool false,.sl none []]):=eqk (by kernel_rfl)
@[go_sem ↓] theorem T48_zs:(∃z,T48.zero=some z/\z.cells.size=T48.size)=True:=by
 refine eq_true ⟨_,T48_zero,?_⟩
 kernel_rfl
noncomputable def T50:Ty:=(tyOf Tryz.prog 50).getD ⟨false,0,0,none,.bool⟩
@[go_sem] theorem ty50:tyOf Tryz.prog 50=some T50:=eqk (by kernel_rfl)
@[go_sem] theorem T50_agg:T50.agg=true:=eqk (by kernel_rfl)
@[go_sem] theorem T50_size:T50.size=3:=eqk (by kernel_rfl)
@[go_sem] theorem T50_bytes:T50.bytes=32:=eqk (by kernel_rfl)
@[go_sem] theorem T50_want:T50.want=some 3:=eqk (by kernel_rfl)
@[go_sem] theorem T50_arr:T50.arr=none:=eqk (by kernel_rfl)
@[go_sem] theorem T50_places:placesOf Tryz.prog T50=some [(0,1),(1,1),(2,1)]:=eqk (by kernel_rfl)
@[go_sem] theorem T50_f0:fieldOf Tryz.prog (some T50) 0=some (0,T9):=eqk (by kernel_rfl)
@[go_sem] theorem T50_f1:fieldOf Tryz.prog (some T50) 1=some (1,T3):=eqk (by kernel_rfl)
@[go_sem] theorem T50_f2:fieldOf Tryz.prog (some T50) 2=some (2,T3):=eqk (by kernel_rfl)
@[go_sem] theorem T50_zero:T50.zero=some (.agg #[.string ⟨#[]⟩,.int .i64 0,.int .i64 0]):=eqk (by kernel_rfl)
@[go_sem] theorem T50_zeroElem:zeroElem T50=some (.agg [.str [],.int .i64 0,.int .i64 0]):=eqk (by kernel_rfl)
@[go_sem ↓] theorem T50_zs:(∃z,T50.zero=some z/\z.cells.size=T50.size)=True:=by
 refine eq_true ⟨_,T50_zero,?_⟩
 kernel_rfl
noncomputable def T55:Ty:=(tyOf Tryz.prog 55).getD ⟨false,0,0,none,.bool⟩
@[go_sem] theorem ty55:tyOf Tryz.prog 55=some T55:=eqk (by kernel_rfl)
@[go_sem] theorem T55_agg:T55.agg=false:=eqk (by kernel_rfl)
@[go_sem] theorem T55_size:T55.size=1:=eqk (by kernel_rfl)
@[go_sem] theorem T55_bytes:T55.bytes=24:=eqk (by kernel_rfl)
@[go_sem] theorem T55_want:T55.want=none:=eqk (by kernel_rfl)
@[go_sem] theorem T55_desc:T55.desc=.slice 67:=eqk (by kernel_rfl)
@[go_sem] theorem T55_arr:T55.arr=none:=eqk (by kernel_rfl)
@[go_sem] theorem T55_zero:T55.zero=some (.slice none 0 0):=eqk (by kernel_rfl)
@[go_sem] theorem T55_zeroD:zeroD T55=some (.sl none []):=eqk (by kernel_rfl)
@[go_sem] theorem T55_zeroElem:zeroElem T55=some (.sl none []):=eqk (by kernel_rfl)
@[go_sem ↓] theorem T55_zs:(∃z,T55.zero=some z/\z.cells.size=T55.size)=True:=by
 refine eq_true ⟨_,T55_zero,?_⟩
 kernel_rfl
noncomputable def T57:Ty:=(tyOf Tryz.prog 57).getD ⟨false,0,0,none,.bool⟩
@[go_sem] theorem ty57:tyOf Tryz.prog 57=some T57:=eqk (by kernel_rfl)
@[go_sem] theorem T57_agg:T57.agg=true:=eqk (by kernel_rfl)
@[go_sem] theorem T57_size:T57.size=4:=eqk (by kernel_rfl)
@[go_sem] theorem T57_bytes:T57.bytes=96:=eqk (by kernel_rfl)
@[go_sem] theorem T57_want:T57.want=some 4:=eqk (by kernel_rfl)
@[go_sem] theorem T57_arr:T57.arr=none:=eqk (by kernel_rfl)
@[go_sem] theorem T57_places:placesOf Tryz.prog T57=some [(0,3),(3,1)]:=eqk (by kernel_rfl)
@[go_sem] theorem T57_f0:fieldOf Tryz.prog (some T57) 0=some (0,T26):=eqk (by kernel_rfl)
@[go_sem] theorem T57_f1:fieldOf Tryz.prog (some T57) 1=some (3,T55):=eqk (by kernel_rfl)
@[go_sem] theorem T57_zero:T57.zero=some (.agg #[.slice none 0 0,.slice none 0 0,.slice none 0 0,.slice none 0 0]):=eqk (by kernel_rfl)
@[go_sem] theorem T57_zeroElem:zeroElem T57=some (.agg [.sl none [],.sl none [],.sl none [],.sl none []]):=eqk (by kernel_rfl)
@[go_sem ↓] theorem T57_zs:(∃z,T57.zero=some z/\z.cells.size=T57.size)=True:=by
 refine eq_true ⟨_,T57_zero,?_⟩
 kernel_rfl
noncomputable def T65:Ty:=(tyOf Tryz.prog 65).getD ⟨false,0,0,none,.bool⟩
@[go_sem] theorem ty65:tyOf Tryz.prog 65=some T65:=eqk (by kernel_rfl)
@[go_sem] theorem T65_agg:T65.agg=true:=eqk (by kernel_rfl)
@[go_sem] theorem T65_size:T65.size=4:=eqk (by kernel_rfl)
@[go_sem] theorem T65_bytes:T65.bytes=32:=eqk (by kernel_rfl)
@[go_sem] theorem T65_want:T65.want=some 4:=eqk (by kernel_rfl)
@[go_sem] theorem T65_arr:T65.arr=none:=eqk (by kernel_rfl)
@[go_sem] theorem T65_places:placesOf Tryz.prog T65=some [(0,1),(1,1),(2,1),(3,1)]:=eqk (by kernel_rfl)
@[go_sem] theorem T65_f0:fieldOf Tryz.prog (some T65) 0=some (0,T3):=eqk (by kernel_rfl)
@[go_sem] theorem T65_f1:fieldOf Tryz.prog (some T65) 1=some (1,T3):=eqk (by kernel_rfl)
@[go_sem] theorem T65_f2:fieldOf Tryz.prog (some T65) 2=some (2,T3):=eqk (by kernel_rfl)
@[go_sem] theorem T65_f3:fieldOf Tryz.prog (some T65) 3=some (3,T4):=eqk (by kernel_rfl)
@[go_sem] theorem T65_zero:T65.zero=some (.agg #[.int .i64 0,.int .i64 0,.int .i64 0,.bool false]):=eqk (by kernel_rfl)
@[go_sem] theorem T65_zeroElem:zeroElem T65=some (.agg [.int .i64 0,.int .i64 0,.int .i64 0,.bool false]):=eqk (by kernel_rfl)
@[go_sem ↓] theorem T65_zs:(∃z,T65.zero=some z/\z.cells.size=T65.size)=True:=by
 refine eq_true ⟨_,T65_zero,?_⟩
 kernel_rfl
noncomputable def T67:Ty:=(tyOf Tryz.prog 67).getD ⟨false,0,0,none,.bool⟩
@[go_sem] theorem ty67:tyOf Tryz.prog 67=some T67:=eqk (by kernel_rfl)
@[go_sem] theorem T67_agg:T67.agg=true:=eqk (by kernel_rfl)
@[go_sem] theorem T67_size:T67.size=7:=eqk (by kernel_rfl)
@[go_sem] theorem T67_bytes:T67.bytes=64:=eqk (by kernel_rfl)
@[go_sem] theorem T67_want:T67.want=some 7:=eqk (by kernel_rfl)
@[go_sem] theorem T67_arr:T67.arr=none:=eqk (by kernel_rfl)
@[go_sem] theorem T67_places:placesOf Tryz.prog T67=some [(0,1),(1,1),(2,1),(3,4)]:=eqk (by kernel_rfl)
@[go_sem] theorem T67_f0:fieldOf Tryz.prog (some T67) 0=some (0,T3):=eqk (by kernel_rfl)
@[go_sem] theorem T67_f1:fieldOf Tryz.prog (some T67) 1=some (1,T3):=eqk (by kernel_rfl)
@[go_sem] theorem T67_f2:fieldOf Tryz.prog (some T67) 2=some (2,T9):=eqk (by kernel_rfl)
@[go_sem] theorem T67_f3:fieldOf Tryz.prog (some T67) 3=some (3,T65):=eqk (by kernel_rfl)
@[go_sem] theorem T67_zero:T67.zero=some (.agg #[.int .i64 0,.int .i64 0,.string ⟨#[]⟩,.int .i64 0,.int .i64 0,.int .i64 0,.bool false]):=eqk (by kernel_rfl)
@[go_sem] theorem T67_zeroElem:zeroElem T67=some (.agg [.int .i64 0,.int .i64 0,.str [],.int .i64 0,.int .i64 0,.int .i64 0,.bool false]):=eqk (by kernel_rfl)
@[go_sem ↓] theorem T67_zs:(∃z,T67.zero=some z/\z.cells.size=T67.size)=True:=by
 refine eq_true ⟨_,T67_zero,?_⟩
 kernel_rfl
noncomputable def T78:Ty:=(tyOf Tryz.prog 78).getD ⟨false,0,0,none,.bool⟩
@[go_sem] theorem ty78:tyOf Tryz.prog 78=some T78:=eqk (by kernel_rfl)
@[go_sem] theorem T78_agg:T78.agg=false:=eqk (by kernel_rfl)
@[go_sem] theorem T78_size:T78.size=1:=eqk (by kernel_rfl)
@[go_sem] theorem T78_bytes:T78.bytes=24:=eqk (by kernel_rfl)
@[go_sem] theorem T78_want:T78.want=none:=eqk (by kernel_rfl)
@[go_sem] theorem T78_desc:T78.desc=.slice 5:=eqk (by kernel_rfl)
@[go_sem] theorem T78_arr:T78.arr=none:=eqk (by kernel_rfl)
@[go_sem] theorem T78_zero:T78.zero=some (.slice none 0 0):=eqk (by kernel_rfl)
@[go_sem] theorem T78_zeroD:zeroD T78=some (.sl none []):=eqk (by kernel_rfl)
@[go_sem] theorem T78_zeroElem:zeroElem T78=some (.sl none []):=eqk (by kernel_rfl)
@[go_sem ↓] theorem T78_zs:(∃z,T78.zero=some z/\z.cells.size=T78.size)=True:=by
 refine eq_true ⟨_,T78_zero,?_⟩
 kernel_rfl
noncomputable def T80:Ty:=(tyOf Tryz.prog 80).getD ⟨false,0,0,none,.bool⟩
@[go_sem] theorem ty80:tyOf Tryz.prog 80=some T80:=eqk (by kernel_rfl)
@[go_sem] theorem T80_agg:T80.agg=true:=eqk (by kernel_rfl)
@[go_sem] theorem T80_size:T80.size=2:=eqk (by kernel_rfl)
@[go_sem] theorem T80_bytes:T80.bytes=32:=eqk (by kernel_rfl)
@[go_sem] theorem T80_want:T80.want=some 2:=eqk (by kernel_rfl)
@[go_sem] theorem T80_arr:T80.arr=none:=eqk (by kernel_rfl)
@[go_sem] theorem T80_f1:fieldOf Tryz.prog (some T80) 1=some (1,T78):=eqk (by kernel_rfl)
noncomputable def T89:Ty:=(tyOf Tryz.prog 89).getD ⟨false,0,0,none,.bool⟩
@[go_sem] theorem ty89:tyOf Tryz.prog 89=some T89:=eqk (by kernel_rfl)
@[go_sem] theorem T89_agg:T89.agg=true:=eqk (by kernel_rfl)
@[go_sem] theorem T89_size:T89.size=2:=eqk (by kernel_rfl)
@[go_sem] theorem T89_bytes:T89.bytes=48:=eqk (by kernel_rfl)
@[go_sem] theorem T89_want:T89.want=some 2:=eqk (by kernel_rfl)
@[go_sem] theorem T89_arr:T89.arr=none:=eqk (by kernel_rfl)
@[go_sem] theorem T89_places:placesOf Tryz.prog T89=some [(0,1),(1,1)]:=eqk (by kernel_rfl)
@[go_sem] theorem T89_f0:fieldOf Tryz.prog (some T89) 0=some (0,T36):=eqk (by kernel_rfl)
@[go_sem] theorem T89_f1:fieldOf Tryz.prog (some T89) 1=some (1,T37):=eqk (by kernel_rfl)
@[go_sem] theorem T89_zero:T89.zero=some (.agg #[.slice none 0 0,.slice none 0 0]):=eqk (by kernel_rfl)
@[go_sem] theorem T89_zeroElem:zeroElem T89=some (.agg [.sl none [],.sl none []]):=eqk (by kernel_rfl)
@[go_sem ↓] theorem T89_zs:(∃z,T89.zero=some z/\z.cells.size=T89.size)=True:=by
 refine eq_true ⟨_,T89_zero,?_⟩
 kernel_rfl
noncomputable def T138:Ty:=(tyOf Tryz.prog 138).getD ⟨false,0,0,none,.bool⟩
@[go_sem] theorem ty138:tyOf Tryz.prog 138=some T138:=eqk (by kernel_rfl)
@[go_sem] theorem T138_agg:T138.agg=false:=eqk (by kernel_rfl)
@[go_sem] theorem T138_size:T138.size=1:=eqk (by kernel_rfl)
@[go_sem] theorem T138_bytes:T138.bytes=4:=eqk (by kernel_rfl)
@[go_sem] theorem T138_want:T138.want=none:=eqk (by kernel_rfl)
@[go_sem] theorem T138_desc:T138.desc=.int .u32:=eqk (by kernel_rfl)
@[go_sem] theorem T138_arr:T138.arr=none:=eqk (by kernel_rfl)
@[go_sem] theorem T138_zero:T138.zero=some (.int .u32 0):=eqk (by kernel_rfl)
@[go_sem] theorem T138_zeroD:zeroD T138=some (.int .u32 0):=eqk (by kernel_rfl)
@[go_sem] theorem T138_zeroElem:zeroElem T138=some (.int .u32 0):=eqk (by kernel_rfl)
@[go_sem ↓] theorem T138_zs:(∃z,T138.zero=some z/\z.cells.size=T138.size)=True:=by
 refine eq_true ⟨_,T138_zero,?_⟩
 kernel_rfl
noncomputable def T140:Ty:=(tyOf Tryz.prog 140).getD ⟨false,0,0,none,.bool⟩
@[go_sem] theorem ty140:tyOf Tryz.prog 140=some T140:=eqk (by kernel_rfl)
@[go_sem] theorem T140_agg:T140.agg=false:=eqk (by kernel_rfl)
@[go_sem] theorem T140_size:T140.size=1:=eqk (by kernel_rfl)
@[go_sem] theorem T140_bytes:T140.bytes=8:=eqk (by kernel_rfl)
@[go_sem] theorem T140_want:T140.want=none:=eqk (by kernel_rfl)
@[go_sem] theorem T140_desc:T140.desc=.int .u64:=eqk (by kernel_rfl)
@[go_sem] theorem T140_arr:T140.arr=none:=eqk (by kernel_rfl)
@[go_sem] theorem T140_zero:T140.zero=some (.int .u64 0):=eqk (by kernel_rfl)
@[go_sem] theorem T140_zeroD:zeroD T140=some (.int .u64 0):=eqk (by kernel_rfl)
@[go_sem] theorem T140_zeroElem:zeroElem T140=some (.int .u64 0):=eqk (by kernel_rfl)
@[go_sem ↓] theorem T140_zs:(∃z,T140.zero=some z/\z.cells.size=T140.size)=True:=by
 refine eq_true ⟨_,T140_zero,?_⟩
 kernel_rfl
noncomputable def T142:Ty:=(tyOf Tryz.prog 142).getD ⟨false,0,0,none,.bool⟩
@[go_sem] theorem ty142:tyOf Tryz.prog 142=some T142:=eqk (by kernel_rfl)
@[go_sem] theorem T142_agg:T142.agg=true:=eqk (by kernel_rfl)
@[go_sem] theorem T142_size:T142.size=24:=eqk (by kernel_rfl)
@[go_sem] theorem T142_bytes:T142.bytes=24:=eqk (by kernel_rfl)
@[go_sem] theorem T142_want:T142.want=some 24:=eqk (by kernel_rfl)
@[go_sem] theorem T142_desc:T142.desc=.array 24 5:=eqk (by kernel_rfl)
@[go_sem] theorem T142_arr:T142.arr=some (24,5):=eqk (by kernel_rfl)
@[go_sem] theorem T142_zero:T142.zero=some (.agg #[.int .u8 0,.int .u8 0,.int .u8 0,.int .u8 0,.int .u8 0,.int .u8 0,.int .u8 0,.int .u8 0,.int .u8 0,.int .u8 0,.int .u8 0,.int .u8 0,.int .u8 0,.int .u8 0,.int .u8 0,.int .u8 0,.int .u8 0,.int .u8 0,.int .u8 0,.int .u8 0,.int .u8 0,.int .u8 0,.int .u8 0,.int .u8 0]):=eqk (by kernel_rfl)
@[go_sem] theorem T142_zeroElem:zeroElem T142=some (.agg [.int .u8 0,.int .u8 0,.int .u8 0,.int .u8 0,.int .u8 0,.int .u8 0,.int .u8 0,.int .u8 0,.int .u8 0,.int .u8 0,.int .u8 0,.int .u8 0,.int .u8 0,.int .u8 0,.int .u8 0,.int .u8 0,.int .u8 0,.int .u8 0,.int .u8 0,.int .u8 0,.int .u8 0,.int .u8 0,.int .u8 0,.int .u8 0]):=eqk (by kernel_rfl)
@[go_sem ↓] theorem T142_zs:(∃z,T142.zero=some z/\z.cells.size=T142.size)=True:=by
 refine eq_true ⟨_,T142_zero,?_⟩
 kernel_rfl
noncomputable def T152:Ty:=(tyOf Tryz.prog 152).getD ⟨false,0,0,none,.bool⟩
@[go_sem] theorem ty152:tyOf Tryz.prog 152=some T152:=eqk (by kernel_rfl)
@[go_sem] theorem T152_agg:T152.agg=true:=eqk (by kernel_rfl)
@[go_sem] theorem T152_size:T152.size=256:=eqk (by kernel_rfl)
@[go_sem] theorem T152_bytes:T152.bytes=256:=eqk (by kernel_rfl)
@[go_sem] theorem T152_want:T152.want=some 256:=eqk (by kernel_rfl)
@[go_sem] theorem T152_desc:T152.desc=.array 256 5:=eqk (by kernel_rfl)
@[go_sem] theorem T152_arr:T152.arr=some (256,5):=eqk (by kernel_rfl)
@[go_sem] theorem T152_zero:T152.zero=some (.agg (Array.replicate 256 (.int .u8 0))):=eqk (by kernel_rfl)
noncomputable def T155:Ty:=(tyOf Tryz.prog 155).getD ⟨false,0,0,none,.bool⟩
@[go_sem] theorem ty155:tyOf Tryz.prog 155=some T155:=eqk (by kernel_rfl)
@[go_sem] theorem T155_agg:T155.agg=true:=eqk (by kernel_rfl)
@[go_sem] theorem T155_size:T155.size=32:=eqk (by kernel_rfl)
@[go_sem] theorem T155_bytes:T155.bytes=32:=eqk (by kernel_rfl)
@[go_sem] theorem T155_want:T155.want=some 32:=eqk (by kernel_rfl)
@[go_sem] theorem T155_desc:T155.desc=.array 16 154:=eqk (by kernel_rfl)
@[go_sem] theorem T155_arr:T155.arr=some (16,154):=eqk (by kernel_rfl)
@[go_sem] theorem T155_zero:T155.zero=some (.agg #[.int .u8 0,.int .u8 0,.int .u8 0,.int .u8 0,.int .u8 0,.int .u8 0,.int .u8 0,.int .u8 0,.int .u8 0,.int .u8 0,.int .u8 0,.int .u8 0,.int .u8 0,.int .u8 0,.int .u8 0,.int .u8 0,.int .u8 0,.int .u8 0,.int .u8 0,.int .u8 0,.int .u8 0,.int .u8 0,.int .u8 0,.int .u8 0,.int .u8 0,.int .u8 0,.int .u8 0,.int .u8 0,.int .u8 0,.int .u8 0,.int .u8 0,.int .u8 0]):=eqk (by kernel_rfl)
@[go_sem] theorem T155_zeroElem:zeroElem T155=some (.agg [.int .u8 0,.int .u8 0,.int .u8 0,.int .u8 0,.int .u8 0,.int .u8 0,.int .u8 0,.int .u8 0,.int .u8 0,.int .u8 0,.int .u8 0,.int .u8 0,.int .u8 0,.int .u8 0,.int .u8 0,.int .u8 0,.int .u8 0,.int .u8 0,.int .u8 0,.int .u8 0,.int .u8 0,.int .u8 0,.int .u8 0,.int .u8 0,.int .u8 0,.int .u8 0,.int .u8 0,.int .u8 0,.int .u8 0,.int .u8 0,.int .u8 0,.int .u8 0]):=eqk (by kernel_rfl)
@[go_sem ↓] theorem T155_zs:(∃z,T155.zero=some z/\z.cells.size=T155.size)=True:=by
 refine eq_true ⟨_,T155_zero,?_⟩
 kernel_rfl
noncomputable def T159:Ty:=(tyOf Tryz.prog 159).getD ⟨false,0,0,none,.bool⟩
@[go_sem] theorem ty159:tyOf Tryz.prog 159=some T159:=eqk (by kernel_rfl)
@[go_sem] theorem T159_agg:T159.agg=true:=eqk (by kernel_rfl)
@[go_sem] theorem T159_size:T159.size=20:=eqk (by kernel_rfl)
@[go_sem] theorem T159_bytes:T159.bytes=160:=eqk (by kernel_rfl)
@[go_sem] theorem T159_want:T159.want=some 20:=eqk (by kernel_rfl)
@[go_sem] theorem T159_desc:T159.desc=.array 20 140:=eqk (by kernel_rfl)
@[go_sem] theorem T159_arr:T159.arr=some (20,140):=eqk (by kernel_rfl)
@[go_sem] theorem T159_zero:T159.zero=some (.agg #[.int .u64 0,.int .u64 0,.int .u64 0,.int .u64 0,.int .u64 0,.int .u64 0,.int .u64 0,.int .u64 0,.int .u64 0,.int .u64 0,.int .u64 0,.int .u64 0,.int .u64 0,.int .u64 0,.int .u64 0,.int .u64 0,.int .u64 0,.int .u64 0,.int .u64 0,.int .u64 0]):=eqk (by kernel_rfl)
@[go_sem] theorem T159_zeroElem:zeroElem T159=some (.agg [.int .u64 0,.int .u64 0,.int .u64 0,.int .u64 0,.int .u64 0,.int .u64 0,.int .u64 0,.int .u64 0,.int .u64 0,.int .u64 0,.int .u64 0,.int .u64 0,.int .u64 0,.int .u64 0,.int .u64 0,.int .u64 0,.int .u64 0,.int .u64 0,.int .u64 0,.int .u64 0]):=eqk (by kernel_rfl)
@[go_sem ↓] theorem T159_zs:(∃z,T159.zero=some z/\z.cells.size=T159.size)=True:=by
 refine eq_true ⟨_,T159_zero,?_⟩
 kernel_rfl
noncomputable def T160:Ty:=(tyOf Tryz.prog 160).getD ⟨false,0,0,none,.bool⟩
@[go_sem] theorem ty160:tyOf Tryz.prog 160=some T160:=eqk (by kernel_rfl)
@[go_sem] theorem T160_agg:T160.agg=true:=eqk (by kernel_rfl)
@[go_sem] theorem T160_size:T160.size=65:=eqk (by kernel_rfl)
@[go_sem] theorem T160_bytes:T160.bytes=65:=eqk (by kernel_rfl)
@[go_sem] theorem T160_want:T160.want=some 65:=eqk (by kernel_rfl)
@[go_sem] theorem T160_desc:T160.desc=.array 65 5:=eqk (by kernel_rfl)
@[go_sem] theorem T160_arr:T160.arr=some (65,5):=eqk (by kernel_rfl)
@[go_sem] theorem T160_zero:T160.zero=some (.agg (Array.replicate 65 (.int .u8 0))):=eqk (by kernel_rfl)
noncomputable def T165:Ty:=(tyOf Tryz.prog 165).getD ⟨false,0,0,none,.bool⟩
@[go_sem] theorem ty165:tyOf Tryz.prog 165=some T165:=eqk (by kernel_rfl)
@[go_sem] theorem T165_agg:T165.agg=true:=eqk (by kernel_rfl)
@[go_sem] theorem T165_size:T165.size=32:=eqk (by kernel_rfl)
@[go_sem] theorem T165_bytes:T165.bytes=32:=eqk (by kernel_rfl)
@[go_sem] theorem T165_want:T165.want=some 32:=eqk (by kernel_rfl)
@[go_sem] theorem T165_desc:T165.desc=.array 32 5:=eqk (by kernel_rfl)
@[go_sem] theorem T165_arr:T165.arr=some (32,5):=eqk (by kernel_rfl)
@[go_sem] theorem T165_zero:T165.zero=some (.agg #[.int .u8 0,.int .u8 0,.int .u8 0,.int .u8 0,.int .u8 0,.int .u8 0,.int .u8 0,.int .u8 0,.int .u8 0,.int .u8 0,.int .u8 0,.int .u8 0,.int .u8 0,.int .u8 0,.int .u8 0,.int .u8 0,.int .u8 0,.int .u8 0,.int .u8 0,.int .u8 0,.int .u8 0,.int .u8 0,.int .u8 0,.int .u8 0,.int .u8 0,.int .u8 0,.int .u8 0,.int .u8 0,.int .u8 0,.int .u8 0,.int .u8 0,.int .u8 0]):=eqk (by kernel_rfl)
@[go_sem] theorem T165_zeroElem:zeroElem T165=some (.agg [.int .u8 0,.int .u8 0,.int .u8 0,.int .u8 0,.int .u8 0,.int .u8 0,.int .u8 0,.int .u8 0,.int .u8 0,.int .u8 0,.int .u8 0,.int .u8 0,.int .u8 0,.int .u8 0,.int .u8 0,.int .u8 0,.int .u8 0,.int .u8 0,.int .u8 0,.int .u8 0,.int .u8 0,.int .u8 0,.int .u8 0,.int .u8 0,.int .u8 0,.int .u8 0,.int .u8 0,.int .u8 0,.int .u8 0,.int .u8 0,.int .u8 0,.int .u8 0]):=eqk (by kernel_rfl)
@[go_sem ↓] theorem T165_zs:(∃z,T165.zero=some z/\z.cells.size=T165.size)=True:=by
 refine eq_true ⟨_,T165_zero,?_⟩
 kernel_rfl
noncomputable def T166:Ty:=(tyOf Tryz.prog 166).getD ⟨false,0,0,none,.bool⟩
@[go_sem] theorem ty166:tyOf Tryz.prog 166=some T166:=eqk (by kernel_rfl)
@[go_sem] theorem T166_agg:T166.agg=true:=eqk (by kernel_rfl)
@[go_sem] theorem T166_size:T166.size=64:=eqk (by kernel_rfl)
@[go_sem] theorem T166_bytes:T166.bytes=64:=eqk (by kernel_rfl)
@[go_sem] theorem T166_want:T166.want=some 64:=eqk (by kernel_rfl)
@[go_sem] theorem T166_desc:T166.desc=.array 64 5:=eqk (by kernel_rfl)
@[go_sem] theorem T166_arr:T166.arr=some (64,5):=eqk (by kernel_rfl)
@[go_sem] theorem T166_zero:T166.zero=some (.agg (Array.replicate 64 (.int .u8 0))):=eqk (by kernel_rfl)
noncomputable def T169:Ty:=(tyOf Tryz.prog 169).getD ⟨false,0,0,none,.bool⟩
@[go_sem] theorem ty169:tyOf Tryz.prog 169=some T169:=eqk (by kernel_rfl)
@[go_sem] theorem T169_agg:T169.agg=true:=eqk (by kernel_rfl)
@[go_sem] theorem T169_size:T169.size=0:=eqk (by kernel_rfl)
@[go_sem] theorem T169_bytes:T169.bytes=0:=eqk (by kernel_rfl)
@[go_sem] theorem T169_want:T169.want=some 0:=eqk (by kernel_rfl)
@[go_sem] theorem T169_desc:T169.desc=.array 0 16:=eqk (by kernel_rfl)
@[go_sem] theorem T169_arr:T169.arr=some (0,16):=eqk (by kernel_rfl)
@[go_sem] theorem T169_zero:T169.zero=some (.agg #[]):=eqk (by kernel_rfl)
@[go_sem] theorem T169_zeroElem:zeroElem T169=some (.agg []):=eqk (by kernel_rfl)
@[go_sem ↓] theorem T169_zs:(∃z,T169.zero=some z/\z.cells.size=T169.size)=True:=by
 refine eq_true ⟨_,T169_zero,?_⟩
 kernel_rfl
end Go.AM
namespace Go.AM
open Go Go.Proofs
theorem mixed:Tryz.prog.follows .mixedOrders=true:=by kernel_rfl
theorem noMk{Γ:Nat->Contract}:MakeFns Γ []:=fun g _ _ _ _ _ h=>by rcases h with h|h <;> cases h
theorem pureNo{Γ:Nat->Contract}:PureFns Γ []:=fun g _ _ _ _ _ h=>by cases h
theorem pure_of{l:List (Nat×Contract)}{pf:List Nat}(h:∀g C,(g,C)∈l->g∈pf->∃R,C=dataC R):PureFns (tbl l) pf:=by
 rintro g args own v own' mv hg ⟨C,hm,hC⟩
 obtain⟨R,rfl⟩:=h g C hm hg
 obtain⟨_,_,_,h1,h2,_⟩:=hC
 exact⟨h1,h2⟩
abbrev Str:=List UInt8
structure PPool where
 name:Str
 size:Int
 res:Int
deriving Inhabited,DecidableEq
structure PStep where
 kind:Int
 on:Int
 cnt:Int
 deep:Bool
deriving Inhabited,DecidableEq
structure PCls where
 name:Str
 workers:Int
 server:Bool
 steps:List PStep
deriving Inhabited,DecidableEq
structure PSys where
 pools:List PPool
 locks:List Str
 classes:List PCls
deriving Inhabited,DecidableEq
abbrev intsD(u:List Int):List D:=u.map (.int .i64)
abbrev boolsD(b:List Bool):List D:=b.map .bool
def poolD(p:PPool):D:=.agg [.str p.name,.int .i64 p.size,.int .i64 p.res]
def stepD(s:PStep):D:=.agg [.int .i64 s.kind,.int .i64 s.on,.int .i64 s.cnt,.bool s.deep]
def stepsD(l:List PStep):D:=.sl (some 4) (l.map stepD)
def clsD(c:PCls):D:=.agg [.str c.name,.int .i64 c.workers,.bool c.server,stepsD c.steps]
def sysD(s:PSys):D:=.agg [.sl (some 3) (s.pools.map poolD),.sl none (s.locks.map .str),.sl (some 4) (s.classes.map clsD)]
def PStep.ok(s:PStep):Prop:=inR .i64 s.kind/\inR .i64 s.on/\inR .i64 s.cnt
def PPool.ok(p:PPool):Prop:=inR .i64 p.size/\inR .i64 p.res
def PCls.ok(c:PCls):Prop:=inR .i64 c.workers/\(∀s∈c.steps,s.ok)/\c.steps.length<4611686018427387904
structure PSys.ok (s:PSys):Prop where
 pools:∀p∈s.pools,p.ok
 classes:∀c∈s.classes,c.ok
 np:s.pools.length<4611686018427387904
 nl:s.locks.length<4611686018427387904
 nc:s.classes.length<4611686018427387904
end Go.AM
namespace Go.AM
open Go Go.Proofs
def lowc(b:UInt8):Bool:=decide (97<=b.toNat) && decide (b.toNat<=122)
def digc(b:UInt8):Bool:=decide (48<=b.toNat) && decide (b.toNat<=57)
def nmc(b:UInt8):Bool:=lowc b || digc b
def isNm(s:Str):Bool:=match s with|[]=>false|b :: r=>decide (r.length<8) && lowc b && r.all nmc
def isNmR(ds:List D)(v:AV):Prop:=∃s:Str,ds=[.str s]/\v=.dat (.bool (isNm s))
theorem lowc_iff{b:UInt8}:lowc b=true↔¬(b.toNat:Int)<97/\¬(122:Int)<b.toNat:=by
 simp only[lowc,Bool.and_eq_true,decide_eq_true_eq];omega
theorem digc_iff{b:UInt8}:digc b=true↔¬(b.toNat:Int)<48/\¬(57:Int)<b.toNat:=by
 simp only[digc,Bool.and_eq_true,decide_eq_true_eq];omega
theorem lowc_eq{b:UInt8}:lowc b=(!decide ((b.toNat:Int)<97) && !decide ((122:Int)<b.toNat)):=by
 rw[Bool.eq_iff_iff,lowc_iff];simp
theorem digc_eq{b:UInt8}:digc b=(!decide ((b.toNat:Int)<48) && !decide ((57:Int)<b.toNat)):=by
 rw[Bool.eq_iff_iff,digc_iff];simp
theorem isName_ok:OkF Tryz.prog 31 (dataC isNmR):=by
 refine okF_data Tryz.func31 rfl (by decide) ?_
 rintro ds v ⟨s,rfl,rfl⟩
 generalize hv:isNm s=V
 refine sem_of_awp (Γ:=tbl []) okG_nil _ _ _ ?_
 have fin:∀s own (b c:Bool),b=c->s.getD 2 .top=.dat (.bool b)->post Tryz.prog Tryz.f31 (.dat (.bool c)) [] [] .ret ⟨s,own,0,[]⟩:=fun s own b c e h=>by
  subst e
  exact post_data (.inl rfl) [2] rfl trivial (by simp only[tmpsOf,h];rfl)
 cases s with
 | nil =>
  have h0:((0:Nat):Int)<1:=by omega
  simp only[go_sem,Tryz.ntmps31,h0]
  exact fin _ _ _ _ hv rfl
 | cons b r =>
  have h0:¬((r.length+1:Nat):Int)<1:=by omega
  have h00:(0:Int)<((r.length+1:Nat):Int):=by omega
  by_cases h1:(8:Int)<((r.length+1:Nat):Int)
  ·simp only[go_sem,Tryz.ntmps31,h0,h1]
   refine fin _ _ _ _ ?_ rfl
   rw[← hv];simp only[isNm];rw[decide_eq_false (by omega)];rfl
  have h1':decide (r.length<8)=true:=decide_eq_true (by omega)
  by_cases h2:(b.toNat:Int)<97
  ·simp only[go_sem,Tryz.ntmps31,h0,h00,h1,h2]
   refine fin _ _ _ _ ?_ rfl
   rw[← hv];simp[isNm,lowc_eq,h2,h1']
  by_cases h3:(122:Int)<b.toNat
  ·simp only[go_sem,Tryz.ntmps31,h0,h00,h1,h2,h3]
   refine fin _ _ _ _ ?_ rfl
   rw[← hv];simp[isNm,lowc_eq,h2,h3,h1']
  have hl:lowc b=true:=lowc_iff.2 ⟨h2,h3⟩
  have e:isNm (b :: r)=(b :: r).all nmc:=by simp only[isNm,h1',hl,List.all_cons,nmc,Bool.true_and,Bool.true_or]
  rw[e]at hv
  simp only[go_sem,Tryz.ntmps31,h0,h00,h1,h2,h3]
  generalize hL:b :: r=L at *
  have hll:L.length<=8:=by rw[← hL];simp only[List.length_cons];omega
  rw[show r.length+1=L.length by rw[← hL];rfl]
  refine sem_loop (fun k:Nat=>⟨slotsOf 50 [(0,.dat (.str L)),(2,.dat (.bool false)),(23,.dat (.int .i64 L.length)),(24,.dat (.int .i64 k))],[],0,[]⟩)
   (fun k=>k<=L.length/\(L.drop k).all nmc=V) (fun k=>L.length - k) 0 ⟨Nat.zero_le _,hv⟩ ?_ ?_
  ·exact le_slots' (by simp only[go_sem,Int.natCast_zero])
  ·rintro k ⟨hk,hI⟩
   refine sem_of_awp (Γ:=tbl []) okG_nil _ _ _ ?_
   cases hd:L.drop k with
   | nil =>
    have:=end_of_drop hd hk
    have hk2:¬(k:Int)<L.length:=by omega
    simp only[go_sem,hk2]
    refine fin _ _ _ _ ?_ rfl
    rw[← hI,hd];rfl
   | cons c q =>
    have hlt:=lt_of_drop hd
    have hk2:(k:Int)<L.length:=by omega
    have hk0:(0:Int)<=k:=Int.natCast_nonneg k
    have hb:L.getD k 0=c:=getD_of_drop hd
    rw[hd,List.all_cons]at hI
    have next:nmc c=true->∃x,(x<=L.length/\(L.drop x).all nmc=V)/\L.length - x<L.length - k/\x=k+1:=fun h =>
     ⟨k+1,⟨by omega,by rw[drop_cons hd,← hI,h,Bool.true_and]⟩,by omega,rfl⟩
    have hgo:inR .i64 ((k:Int)+1):=inR_i64.2 (by omega)
    by_cases g1:(c.toNat:Int)<97
    ·by_cases g3:(c.toNat:Int)<48
     ·simp only[go_sem,hk2,hk0,hb,g1,g3]
      refine fin _ _ _ _ ?_ rfl
      rw[← hI];simp[nmc,lowc_eq,digc_eq,g1,g3]
     by_cases g4:(57:Int)<c.toNat
     ·simp only[go_sem,hk2,hk0,hb,g1,g3,g4]
      refine fin _ _ _ _ ?_ rfl
      rw[← hI];simp[nmc,lowc_eq,digc_eq,g1,g3,g4]
     ·simp only[go_sem,hk2,hk0,hb,g1,g3,g4]
      obtain⟨x,n1,n2,rfl⟩:=next (by simp[nmc,lowc_eq,digc_eq,g1,g3,g4])
      refine⟨hgo,k+1,n1,n2,?_⟩
      exact le_slots' (by simp only[go_sem,Int.natCast_add,Int.cast_ofNat_Int])
    ·by_cases g2:(122:Int)<c.toNat
     ·have g3:¬(c.toNat:Int)<48:=by omega
      have g4:(57:Int)<c.toNat:=by omega
      simp only[go_sem,hk2,hk0,hb,g1,g2,g3,g4]
      refine fin _ _ _ _ ?_ rfl
      rw[← hI];simp[nmc,lowc_eq,digc_eq,g1,g2,g3,g4]
     ·simp only[go_sem,hk2,hk0,hb,g1,g2]
      obtain⟨x,n1,n2,rfl⟩:=next (by simp[nmc,lowc_eq,g1,g2])
      refine⟨hgo,k+1,n1,n2,?_⟩
      exact le_slots' (by simp only[go_sem,Int.natCast_add,Int.cast_ofNat_Int])
end Go.AM
namespace Go.AM
open Go Go.Proofs
def idxG{α:Type}[DecidableEq α](x:α):Nat->List α->Int
 | _,[]=>-1
 | k,y :: r=>if x=y then k else idxG x (k+1) r
theorem idxG_mem{α:Type}[DecidableEq α](x:α):∀(k:Nat) (l:List α),(0<=idxG x k l)↔x∈l
 | _,[]=>by simp[idxG]
 | k,y :: r=>by
  simp only[idxG]
  split
  ·rename_i h;subst h;simp
  ·rename_i h;simp[idxG_mem x (k+1) r,h]
def idxSR(ds:List D)(v:AV):Prop:=∃(l:List Str) (x:Str),ds=[.sl none (l.map (.str)),.str x]/\l.length<4611686018427387904/\v=.dat (.int .i64 (idxG x 0 l))
theorem idxS_ok:OkF Tryz.prog 67 (dataC idxSR):=by
 refine okF_data Tryz.func67 rfl (by decide) ?_
 rintro ds v ⟨l,x,rfl,hl,rfl⟩
 generalize hv:idxG x 0 l=V
 refine sem_of_awp (Γ:=tbl []) okG_nil _ _ _ ?_
 have fin:∀s own (b c:Int),b=c->s.getD 4 .top=.dat (.int .i64 b)->post Tryz.prog Tryz.f67 (.dat (.int .i64 c)) [] [] .ret ⟨s,own,0,[]⟩:=fun s own b c e h=>by
  subst e
  exact post_data (.inl rfl) [4] rfl trivial (by simp only[tmpsOf,h];rfl)
 simp only[go_sem,Tryz.ntmps67]
 refine sem_loop (fun k:Nat=>⟨slotsOf 19 [(0,.dat (.sl none (l.map (.str)))),(1,.dat (.str x)),(4,.dat (.int .i64 0)),(7,.dat (.int .i64 l.length)),(8,.dat (.int .i64 k))],[],0,[]⟩)
  (fun k=>k<=l.length/\idxG x k (l.drop k)=V) (fun k=>l.length - k) 0 ⟨Nat.zero_le _,hv⟩ ?_ ?_
 ·exact le_slots' (by simp only[go_sem,Int.natCast_zero])
 ·rintro k ⟨hk,hI⟩
  refine sem_of_awp (Γ:=tbl []) okG_nil _ _ _ ?_
  cases hd:l.drop k with
  | nil =>
   have:=end_of_drop hd hk
   have hk2:¬(k:Int)<l.length:=by omega
   simp only[go_sem,hk2]
   refine fin _ _ _ _ ?_ rfl
   rw[← hI,hd];rfl
  | cons c q =>
   have hlt:=lt_of_drop hd
   have hk2:(k:Int)<l.length:=by omega
   have hk0:(0:Int)<=k:=Int.natCast_nonneg k
   have hn:=nth_of_drop (f:=.str) hd
   rw[hd,idxG]at hI
   by_cases he:x=c
   ·simp only[go_sem,hk2,hk0,hn,he]
    rw[if_pos he]at hI
    exact fin _ _ _ _ hI rfl
   ·simp only[go_sem,hk2,hk0,hn,he]
    rw[if_neg he]at hI
    refine⟨inR_i64.2 (by omega),k+1,⟨by omega,by rw[drop_cons hd];exact hI⟩,by omega,?_⟩
    exact le_slots' (by simp only[go_sem,Int.natCast_add,Int.cast_ofNat_Int])
def hasSR(ds:List D)(v:AV):Prop:=∃(l:List Str) (x:Str),ds=[.sl none (l.map (.str)),.str x]/\l.length<4611686018427387904/\v=.dat (.bool (decide (x∈l)))
theorem hasS_ok:OkF Tryz.prog 32 (dataC hasSR):=by
 refine okF_data Tryz.func32 rfl (by decide) ?_
 rintro ds v ⟨l,x,rfl,hl,rfl⟩
 refine sem_of_awp (Γ:=tbl [(67,dataC idxSR)]) (okG_cons idxS_ok okG_nil) _ _ _ ?_
 simp only[go_sem,Tryz.ntmps32]
 refine call_data idxSR (by simp) _ _ rfl ⟨l,x,rfl,hl,rfl⟩ (.inl rfl) ?_
 simp only[go_sem]
 refine post_data (.inl rfl) [4] rfl trivial ?_
 simp only[tmpsOf,resV,go_sem,idxG_mem]
def idxBR(ds:List D)(v:AV):Prop:=∃(l:List Bool) (x:Bool),ds=[.sl none (l.map (.bool)),.bool x]/\l.length<4611686018427387904/\v=.dat (.int .i64 (idxG x 0 l))
theorem idxB_ok:OkF Tryz.prog 88 (dataC idxBR):=by
 refine okF_data Tryz.func88 rfl (by decide) ?_
 rintro ds v ⟨l,x,rfl,hl,rfl⟩
 generalize hv:idxG x 0 l=V
 refine sem_of_awp (Γ:=tbl []) okG_nil _ _ _ ?_
 have fin:∀s own (b c:Int),b=c->s.getD 4 .top=.dat (.int .i64 b)->post Tryz.prog Tryz.f88 (.dat (.int .i64 c)) [] [] .ret ⟨s,own,0,[]⟩:=fun s own b c e h=>by
  subst e
  exact post_data (.inl rfl) [4] rfl trivial (by simp only[tmpsOf,h];rfl)
 simp only[go_sem,Tryz.ntmps88]
 refine sem_loop (fun k:Nat=>⟨slotsOf 19 [(0,.dat (.sl none (l.map (.bool)))),(1,.dat (.bool x)),(4,.dat (.int .i64 0)),(7,.dat (.int .i64 l.length)),(8,.dat (.int .i64 k))],[],0,[]⟩)
  (fun k=>k<=l.length/\idxG x k (l.drop k)=V) (fun k=>l.length - k) 0 ⟨Nat.zero_le _,hv⟩ ?_ ?_
 ·exact le_slots' (by simp only[go_sem,Int.natCast_zero])
 ·rintro k ⟨hk,hI⟩
  refine sem_of_awp (Γ:=tbl []) okG_nil _ _ _ ?_
  cases hd:l.drop k with
  | nil =>
   have:=end_of_drop hd hk
   have hk2:¬(k:Int)<l.length:=by omega
   simp only[go_sem,hk2]
   refine fin _ _ _ _ ?_ rfl
   rw[← hI,hd];rfl
  | cons c q =>
   have hlt:=lt_of_drop hd
   have hk2:(k:Int)<l.length:=by omega
   have hk0:(0:Int)<=k:=Int.natCast_nonneg k
   have hn:=nth_of_drop (f:=.bool) hd
   rw[hd,idxG]at hI
   by_cases he:x=c
   ·have hbe:(x == c)=true:=by simp[he]
    simp only[go_sem,hk2,hk0,hn,hbe]
    rw[if_pos he]at hI
    exact fin _ _ _ _ hI rfl
   ·have hbe:(x == c)=false:=by simp[he]
    simp only[go_sem,hk2,hk0,hn,hbe]
    rw[if_neg he]at hI
    refine⟨inR_i64.2 (by omega),k+1,⟨by omega,by rw[drop_cons hd];exact hI⟩,by omega,?_⟩
    exact le_slots' (by simp only[go_sem,Int.natCast_add,Int.cast_ofNat_Int])
def hasBR(ds:List D)(v:AV):Prop:=∃(l:List Bool) (x:Bool),ds=[.sl none (l.map (.bool)),.bool x]/\l.length<4611686018427387904/\v=.dat (.bool (decide (x∈l)))
theorem hasB_ok:OkF Tryz.prog 68 (dataC hasBR):=by
 refine okF_data Tryz.func68 rfl (by decide) ?_
 rintro ds v ⟨l,x,rfl,hl,rfl⟩
 refine sem_of_awp (Γ:=tbl [(88,dataC idxBR)]) (okG_cons idxB_ok okG_nil) _ _ _ ?_
 simp only[go_sem,Tryz.ntmps68]
 refine call_data idxBR (by simp) _ _ rfl ⟨l,x,rfl,hl,rfl⟩ (.inl rfl) ?_
 simp only[go_sem]
 refine post_data (.inl rfl) [4] rfl trivial ?_
 simp only[tmpsOf,resV,go_sem,idxG_mem]
def pos1R(ds:List D)(v:AV):Prop:=∃n:Int,ds=[.int .i64 n]/\v=.dat (.bool (decide (0<n)))
theorem pos1_ok:OkF Tryz.prog 70 (dataC pos1R):=by
 refine okF_data Tryz.func70 rfl (by decide) ?_
 rintro ds v ⟨n,rfl,rfl⟩
 refine sem_of_awp (Γ:=tbl []) okG_nil _ _ _ ?_
 simp only[go_sem,Tryz.ntmps70]
 exact post_data (.inl rfl) [2] rfl trivial rfl
end Go.AM
namespace Go.AM
open Go Go.Proofs
def namesL(s:PSys):List Str:=s.pools.map (·.name)++s.locks++s.classes.map (·.name)
structure PSys.small (s:PSys):Prop where
 np:s.pools.length<=10
 nl:s.locks.length<=10
 nc:s.classes.length<=10
def namesR(ds:List D)(v:AV):Prop:=∃s:PSys,ds=[sysD s]/\s.small/\v=.dat (.sl none ((namesL s).map .str))
theorem map_snoc{α:Type}{f:α->Str}{l r:List α}{x:α}{k:Nat}(h:l.drop k=x :: r):(l.take (k+1)).map (fun y=>D.str (f y))=(l.take k).map (fun y=>D.str (f y))++[.str (f x)]:=by
 rw[take_of_drop h];simp
theorem names_ok:OkF Tryz.prog 30 (dataC namesR):=by
 refine okF_data Tryz.func30 rfl (by decide) ?_
 rintro ds v ⟨s,rfl,⟨hp,hl,hc⟩,rfl⟩
 obtain⟨pools,locks,classes⟩:=s
 simp only at hp hl hc
 generalize hv:namesL ⟨pools,locks,classes⟩=V
 refine sem_of_awp (Γ:=tbl []) okG_nil _ _ _ ?_
 simp only[go_sem,Tryz.ntmps30,sysD]
 refine sem_le (le_addnil 3 none rfl (Nat.zero_le _)) ?_
 simp only[go_sem]
 refine sem_loop (fun k:Nat=>⟨slotsOf 39 [(1,.ptr 0 0 0),(2,.nils),(3,.sl 1 0 k),(9,.dat (.sl (some 3) (pools.map poolD))),(10,.dat (.int .i64 pools.length)),(11,.dat (.int .i64 k))],
   [.box [.dat (.sl (some 3) (pools.map poolD)),.dat (.sl none (locks.map .str)),.dat (.sl (some 4) (classes.map clsD))],.row none ((pools.take k).map fun p:PPool=>D.str p.name)],0,[]⟩)
  (fun k=>k<=pools.length) (fun k=>pools.length - k) 0 (Nat.zero_le _) ?_ ?_
 ·exact le_slots' (by simp only[go_sem,Int.natCast_zero])
 ·rintro k hk
  refine sem_of_awp (Γ:=tbl []) okG_nil _ _ _ ?_
  cases hd:pools.drop k with
  | nil =>
   have he:=end_of_drop hd hk
   have hk2:¬(k:Int)<pools.length:=by omega
   subst he
   have hlen:(pools.map fun p:PPool=>D.str p.name).take pools.length=pools.map fun p:PPool=>D.str p.name:=List.take_of_length_le (by simp)
   simp only[go_sem,hk2,List.take_length,hlen]
   refine⟨by omega,by omega,?_⟩
   refine sem_loop (fun k:Nat=>⟨slotsOf 39 [(1,.ptr 0 0 0),(2,.nils),(3,.sl 1 0 (pools.length+locks.length+k)),(26,.dat (.sl (some 4) (classes.map clsD))),(27,.dat (.int .i64 classes.length)),(28,.dat (.int .i64 k))],
     [.box [.dat (.sl (some 3) (pools.map poolD)),.dat (.sl none (locks.map .str)),.dat (.sl (some 4) (classes.map clsD))],.row none ((pools.map fun p:PPool=>D.str p.name)++locks.map D.str++(classes.take k).map fun p:PCls=>D.str p.name)],0,[]⟩)
    (fun k=>k<=classes.length) (fun k=>classes.length - k) 0 (Nat.zero_le _) ?_ ?_
   ·simp only[List.take_zero,List.map_nil,List.append_nil]
    exact le_slots' (by simp only[go_sem,Int.natCast_zero])
   ·rintro k hk
    refine sem_of_awp (Γ:=tbl []) okG_nil _ _ _ ?_
    cases hd:classes.drop k with
    | nil =>
     have he:=end_of_drop hd hk
     have hk2:¬(k:Int)<classes.length:=by omega
     subst he
     simp only[go_sem,hk2,List.take_length]
     refine post_res (.inl rfl) [.tmp 2] rfl ?_
     simp only[go_sem]
     refine Le.trans (le_freeze 1 (ag:=none) rfl (Nat.zero_le _)) ?_
     have e:((pools.map fun p:PPool=>D.str p.name)++locks.map D.str++classes.map fun p:PCls=>D.str p.name)=V.map .str:=by
      rw[← hv];simp[namesL,List.map_map,Function.comp_def]
     have e2:pools.length+locks.length+classes.length=V.length:=by rw[← hv];simp[namesL];omega
     have e3:(V.map D.str).take V.length=V.map .str:=List.take_of_length_le (by simp)
     rw[e,e2]
     simp only[go_sem,e3]
     exact le_fin (by simp only[go_sem]) (by simp only[go_sem])
    | cons c q =>
     have hlt:=lt_of_drop hd
     have hk2:(k:Int)<classes.length:=by omega
     have hk0:(0:Int)<=k:=Int.natCast_nonneg k
     have hn:=nth_of_drop (f:=clsD) hd
     have hml:((classes.take k).map fun p:PCls=>D.str p.name).length=k:=by simp;omega
     have hrow:((pools.map fun p:PPool=>D.str p.name)++locks.map D.str++(classes.take k).map fun p:PCls=>D.str p.name).length=pools.length+locks.length+k:=by simp;omega
     have htk:((pools.map fun p:PPool=>D.str p.name)++locks.map D.str++(classes.take k).map fun p:PCls=>D.str p.name).take (pools.length+locks.length+k)=(pools.map fun p:PPool=>D.str p.name)++locks.map D.str++(classes.take k).map fun p:PCls=>D.str p.name :=
      List.take_of_length_le (by omega)
     have hsn:(pools.map fun p:PPool=>D.str p.name)++locks.map D.str++((classes.take (k+1)).map fun p:PCls=>D.str p.name)=((pools.map fun p:PPool=>D.str p.name)++locks.map D.str++(classes.take k).map fun p:PCls=>D.str p.name)++[.str c.name]:=by
      rw[map_snoc (f:=PCls.name) hd,List.append_assoc,List.append_assoc];simp
     generalize ((pools.map fun p:PPool=>D.str p.name)++locks.map D.str++(classes.take k).map fun p:PCls=>D.str p.name)=row at *
     simp only[go_sem,hk2,hk0,hn,clsD,hrow,htk]
     refine⟨by omega,by omega,inR_i64.2 (by omega),k+1,by omega,by omega,?_⟩
     rw[hsn]
     refine le_end (own:=[_,_]) (ex:=[_,_]) (Nat.zero_le _) ?_ ?_ ?_
     ·simp only[go_sem,Int.natCast_add,Int.cast_ofNat_Int,Nat.add_assoc]
     ·simp only[go_sem]
     ·simp only[go_sem,Obj.under,AV.unders,AV.under]
  | cons c q =>
   have hlt:=lt_of_drop hd
   have hk2:(k:Int)<pools.length:=by omega
   have hk0:(0:Int)<=k:=Int.natCast_nonneg k
   have hn:=nth_of_drop (f:=poolD) hd
   have hrow:((pools.take k).map fun p:PPool=>D.str p.name).length=k:=by simp;omega
   have htk:((pools.take k).map fun p:PPool=>D.str p.name).take k=(pools.take k).map fun p:PPool=>D.str p.name:=List.take_of_length_le (by omega)
   have hsn:=map_snoc (f:=PPool.name) hd
   generalize ((pools.take k).map fun p:PPool=>D.str p.name)=row at *
   simp only[go_sem,hk2,hk0,hn,poolD,hrow,htk]
   refine⟨by omega,by omega,inR_i64.2 (by omega),k+1,by omega,by omega,?_⟩
   rw[hsn]
   refine le_end (own:=[_,_]) (ex:=[_,_]) (Nat.zero_le _) ?_ ?_ ?_
   ·simp only[go_sem,Int.natCast_add,Int.cast_ofNat_Int,Nat.add_assoc]
   ·simp only[go_sem]
   ·simp only[go_sem,Obj.under,AV.unders,AV.under]
end Go.AM
namespace Go.AM
open Go Go.Proofs
def beforeR(ds:List D)(v:AV):Prop:=∃(l:List Str) (i:Nat) (x:Str),ds=[.sl none (l.map .str),.int .i64 i]/\l[i]?=some x/\l.length<4611686018427387904/\v=.dat (.bool (decide (x∈l.take i)))
end Go.AM
namespace Go.AM
open Go Go.Proofs
def bstep(on kind:Int)(a:Int)(x:PStep):Int :=
 if x.on=on then
  (if x.kind=1 then (if kind=0 then a+x.cnt else a) else
  if x.kind=2 then (if kind=0 then a - x.cnt else a) else
  if x.kind=3 then (if kind=1 then a+1 else a) else
  if x.kind=4 then (if kind=1 then a - 1 else a) else a) else a
def bal(l:List PStep)(on kind:Int):Int:=l.foldl (bstep on kind) 0
def Tame(l:List PStep):Prop:=∀x∈l,-1000<=x.cnt/\x.cnt<=1000
theorem bal_snoc(l:List PStep)(x:PStep)(on kind:Int):bal (l++[x]) on kind=bstep on kind (bal l on kind) x:=by simp[bal]
def balR(ds:List D)(v:AV):Prop:=∃(l:List PStep) (n:Nat) (on kind:Int),ds=[stepsD l,.int .i64 n,.int .i64 on,.int .i64 kind]/\(kind=0∨kind=1)/\n<=l.length/\n<=1000/\Tame (l.take n)/\v=.dat (.int .i64 (bal (l.take n) on kind))
end Go.AM

