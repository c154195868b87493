/- Own work over the model of the kit. -/
import Derived.Test.YtddnngfkgpbemaaProg
import Derived.Test.YtddnngfkgpbemaaD4
import Derived.Test.YtddnngfkgpbemaaD9
import Derived.Test.YtddnngfkgpbemaaD13
import Derived.Test.YtddnngfkgpbemaaD12
set_option linter.unnecessarySimpa false
set_option linter.unusedSimpArgs false
set_option linter.unusedVariables false
set_option maxHeartbeats 4000000
set_option maxRecDepth 8000
namespace Go.AM
private theorem eqk {α:Sort _} {a b:α} (h:a=b):a=b:=Eq.trans h (Eq.refl _)
open Go Go.Proofs
noncomputable def T2:Ty:=(tyOf Try.prog 2).getD ⟨false,0,0,none,.bool⟩
@[go_sem] theorem ty2:tyOf Try.prog 2=some T2:=eqk (by kernel_rfl)
@[go_sem] theorem T2_agg:T2.agg=false:=eqk (by kernel_rfl)
@[go_sem] theorem T2_size:T2.size=1:=eqk (by kernel_rfl)
@[go_sem] theorem T2_bytes:T2.bytes=8:=eqk (by kernel_rfl)
@[go_sem] theorem T2_want:T2.want=none:=eqk (by kernel_rfl)
@[go_sem] theorem T2_desc:T2.desc=.int .i64:=eqk (by kernel_rfl)
@[go_sem] theorem T2_arr:T2.arr=none:=eqk (by kernel_rfl)
@[go_sem] theorem T2_zero:T2.zero=some (.int .i64 0):=eqk (by kernel_rfl)
@[go_sem] theorem T2_zeroD:zeroD T2=some (.int .i64 0):=eqk (by kernel_rfl)
@[go_sem] theorem T2_zeroElem:zeroElem T2=some (.int .i64 0):=eqk (by kernel_rfl)
@[go_sem ↓] theorem T2_zs:(∃z,T2.zero=some z/\z.cells.size=T2.size)=True:=by
 refine eq_true ⟨_,T2_zero,?_⟩
 kernel_rfl
noncomputable def T3:Ty:=(tyOf Try.prog 3).getD ⟨false,0,0,none,.bool⟩
@[go_sem] theorem ty3:tyOf Try.prog 3=some T3:=eqk (by kernel_rfl)
@[go_sem] theorem T3_agg:T3.agg=false:=eqk (by kernel_rfl)
@[go_sem] theorem T3_size:T3.size=1:=eqk (by kernel_rfl)
@[go_sem] theorem T3_bytes:T3.bytes=8:=eqk (by kernel_rfl)
@[go_sem] theorem T3_want:T3.want=none:=eqk (by kernel_rfl)
@[go_sem] theorem T3_desc:T3.desc=.int .i64:=eqk (by kernel_rfl)
@[go_sem] theorem T3_arr:T3.arr=none:=eqk (by kernel_rfl)
@[go_sem] theorem T3_zero:T3.zero=some (.int .i64 0):=eqk (by kernel_rfl)
@[go_sem] theorem T3_zeroD:zeroD T3=some (.int .i64 0):=eqk (by kernel_rfl)
@[go_sem] theorem T3_zeroElem:zeroElem T3=some (.int .i64 0):=eqk (by kernel_rfl)
@[go_sem ↓] theorem T3_zs:(∃z,T3.zero=some z/\z.cells.size=T3.size)=True:=by
 refine eq_true ⟨_,T3_zero,?_⟩
 kernel_rfl
noncomputable def T4:Ty:=(tyOf Try.prog 4).getD ⟨false,0,0,none,.bool⟩
@[go_sem] theorem ty4:tyOf Try.prog 4=some T4:=eqk (by kernel_rfl)
@[go_sem] theorem T4_agg:T4.agg=false:=eqk (by kernel_rfl)
@[go_sem] theorem T4_size:T4.size=1:=eqk (by kernel_rfl)
@[go_sem] theorem T4_bytes:T4.bytes=1:=eqk (by kernel_rfl)
@[go_sem] theorem T4_want:T4.want=none:=eqk (by kernel_rfl)
@[go_sem] theorem T4_desc:T4.desc=.bool:=eqk (by kernel_rfl)
@[go_sem] theorem T4_arr:T4.arr=none:=eqk (by kernel_rfl)
@[go_sem] theorem T4_zero:T4.zero=some (.bool false):=eqk (by kernel_rfl)
@[go_sem] theorem T4_zeroD:zeroD T4=some (.bool false):=eqk (by kernel_rfl)
@[go_sem] theorem T4_zeroElem:zeroElem T4=some (.bool false):=eqk (by kernel_rfl)
@[go_sem ↓] theorem T4_zs:(∃z,T4.zero=some z/\z.cells.size=T4.size)=True:=by
 refine eq_true ⟨_,T4_zero,?_⟩
 kernel_rfl
noncomputable def T5:Ty:=(tyOf Try.prog 5).getD ⟨false,0,0,none,.bool⟩
@[go_sem] theorem ty5:tyOf Try.prog 5=some T5:=eqk (by kernel_rfl)
@[go_sem] theorem T5_agg:T5.agg=false:=eqk (by kernel_rfl)
@[go_sem] theorem T5_size:T5.size=1:=eqk (by kernel_rfl)
@[go_sem] theorem T5_bytes:T5.bytes=1:=eqk (by kernel_rfl)
@[go_sem] theorem T5_want:T5.want=none:=eqk (by kernel_rfl)
@[go_sem] theorem T5_desc:T5.desc=.int .u8:=eqk (by kernel_rfl)
@[go_sem] theorem T5_arr:T5.arr=none:=eqk (by kernel_rfl)
@[go_sem] theorem T5_zero:T5.zero=some (.int .u8 0):=eqk (by kernel_rfl)
@[go_sem] theorem T5_zeroD:zeroD T5=some (.int .u8 0):=eqk (by kernel_rfl)
@[go_sem] theorem T5_zeroElem:zeroElem T5=some (.int .u8 0):=eqk (by kernel_rfl)
@[go_sem ↓] theorem T5_zs:(∃z,T5.zero=some z/\z.cells.size=T5.size)=True:=by
 refine eq_true ⟨_,T5_zero,?_⟩
 kernel_rfl
noncomputable def T9:Ty:=(tyOf Try.prog 9).getD ⟨false,0,0,none,.bool⟩
@[go_sem] theorem ty9:tyOf Try.prog 9=some T9:=eqk (by kernel_rfl)
@[go_sem] theorem T9_agg:T9.agg=false:=eqk (by kernel_rfl)
@[go_sem] theorem T9_size:T9.size=1:=eqk (by kernel_rfl)
@[go_sem] theorem T9_bytes:T9.bytes=16:=eqk (by kernel_rfl)
@[go_sem] theorem T9_want:T9.want=none:=eqk (by kernel_rfl)
@[go_sem] theorem T9_desc:T9.desc=.string:=eqk (by kernel_rfl)
@[go_sem] theorem T9_arr:T9.arr=none:=eqk (by kernel_rfl)
@[go_sem] theorem T9_zero:T9.zero=some (.string ⟨#[]⟩):=eqk (by kernel_rfl)
@[go_sem] theorem T9_zeroD:zeroD T9=some (.str []):=eqk (by kernel_rfl)
@[go_sem] theorem T9_zeroElem:zeroElem T9=some (.str []):=eqk (by kernel_rfl)
@[go_sem ↓] theorem T9_zs:(∃z,T9.zero=some z/\z.cells.size=T9.size)=True:=by
 refine eq_true ⟨_,T9_zero,?_⟩
 kernel_rfl
noncomputable def T21:Ty:=(tyOf Try.prog 21).getD ⟨false,0,0,none,.bool⟩
@[go_sem] theorem ty21:tyOf Try.prog 21=some T21:=eqk (by kernel_rfl)
@[go_sem] theorem T21_agg:T21.agg=false:=eqk (by kernel_rfl)
@[go_sem] theorem T21_size:T21.size=1:=eqk (by kernel_rfl)
@[go_sem] theorem T21_bytes:T21.bytes=4:=eqk (by kernel_rfl)
@[go_sem] theorem T21_want:T21.want=none:=eqk (by kernel_rfl)
@[go_sem] theorem T21_desc:T21.desc=.int .i32:=eqk (by kernel_rfl)
@[go_sem] theorem T21_arr:T21.arr=none:=eqk (by kernel_rfl)
@[go_sem] theorem T21_zero:T21.zero=some (.int .i32 0):=eqk (by kernel_rfl)
@[go_sem] theorem T21_zeroD:zeroD T21=some (.int .i32 0):=eqk (by kernel_rfl)
@[go_sem] theorem T21_zeroElem:zeroElem T21=some (.int .i32 0):=eqk (by kernel_rfl)
@[go_sem ↓] theorem T21_zs:(∃z,T21.zero=some z/\z.cells.size=T21.size)=True:=by
 refine eq_true ⟨_,T21_zero,?_⟩
 kernel_rfl
noncomputable def T22:Ty:=(tyOf Try.prog 22).getD ⟨false,0,0,none,.bool⟩
@[go_sem] theorem ty22:tyOf Try.prog 22=some T22:=eqk (by kernel_rfl)
@[go_sem] theorem T22_agg:T22.agg=false:=eqk (by kernel_rfl)
@[go_sem] theorem T22_size:T22.size=1:=eqk (by kernel_rfl)
@[go_sem] theorem T22_bytes:T22.bytes=24:=eqk (by kernel_rfl)
@[go_sem] theorem T22_want:T22.want=none:=eqk (by kernel_rfl)
@[go_sem] theorem T22_desc:T22.desc=.slice 48:=eqk (by kernel_rfl)
@[go_sem] theorem T22_arr:T22.arr=none:=eqk (by kernel_rfl)
@[go_sem] theorem T22_zero:T22.zero=some (.slice none 0 0):=eqk (by kernel_rfl)
@[go_sem] theorem T22_zeroD:zeroD T22=some (.sl none []):=eqk (by kernel_rfl)
@[go_sem] theorem T22_zeroElem:zeroElem T22=some (.sl none []):=eqk (by kernel_rfl)
@[go_sem ↓] theorem T22_zs:(∃z,T22.zero=some z/\z.cells.size=T22.size)=True:=by
 refine eq_true ⟨_,T22_zero,?_⟩
 kernel_rfl
noncomputable def T24:Ty:=(tyOf Try.prog 24).getD ⟨false,0,0,none,.bool⟩
@[go_sem] theorem ty24:tyOf Try.prog 24=some T24:=eqk (by kernel_rfl)
@[go_sem] theorem T24_agg:T24.agg=false:=eqk (by kernel_rfl)
@[go_sem] theorem T24_size:T24.size=1:=eqk (by kernel_rfl)
@[go_sem] theorem T24_bytes:T24.bytes=24:=eqk (by kernel_rfl)
@[go_sem] theorem T24_want:T24.want=none:=eqk (by kernel_rfl)
@[go_sem] theorem T24_desc:T24.desc=.slice 34:=eqk (by kernel_rfl)
@[go_sem] theorem T24_arr:T24.arr=none:=eqk (by kernel_rfl)
@[go_sem] theorem T24_zero:T24.zero=some (.slice none 0 0):=eqk (by kernel_rfl)
@[go_sem] theorem T24_zeroD:zeroD T24=some (.sl none []):=eqk (by kernel_rfl)
@[go_sem] theorem T24_zeroElem:zeroElem T24=some (.sl none []):=eqk (by kernel_rfl)
@[go_sem ↓] theorem T24_zs:(∃z,T24.zero=some z/\z.cells.size=T24.size)=True:=by
 refine eq_true ⟨_,T24_zero,?_⟩
 kernel_rfl
noncomputable def T25:Ty:=(tyOf Try.prog 25).getD ⟨false,0,0,none,.bool⟩
@[go_sem] theorem ty25:tyOf Try.prog 25=some T25:=eqk (by kernel_rfl)
@[go_sem] theorem T25_agg:T25.agg=false:=eqk (by kernel_rfl)
@[go_sem] theorem T25_size:T25.size=1:=eqk (by kernel_rfl)
@[go_sem] theorem T25_bytes:T25.bytes=24:=eqk (by kernel_rfl)
@[go_sem] theorem T25_want:T25.want=none:=eqk (by kernel_rfl)
@[go_sem] theorem T25_desc:T25.desc=.slice 36:=eqk (by kernel_rfl)
@[go_sem] theorem T25_arr:T25.arr=none:=eqk (by kernel_rfl)
@[go_sem] theorem T25_zero:T25.zero=some (.slice none 0 0):=eqk (by kernel_rfl)
@[go_sem] theorem T25_zeroD:zeroD T25=some (.sl none []):=eqk (by kernel_rfl)
@[go_sem] theorem T25_zeroElem:zeroElem T25=some (.sl none []):=eqk (by kernel_rfl)
@[go_sem ↓] theorem T25_zs:(∃z,T25.zero=some z/\z.cells.size=T25.size)=True:=by
 refine eq_true ⟨_,T25_zero,?_⟩
 kernel_rfl
noncomputable def T31:Ty:=(tyOf Try.prog 31).getD ⟨false,0,0,none,.bool⟩
@[go_sem] theorem ty31:tyOf Try.prog 31=some T31:=eqk (by kernel_rfl)
@[go_sem] theorem T31_agg:T31.agg=false:=eqk (by kernel_rfl)
@[go_sem] theorem T31_size:T31.size=1:=eqk (by kernel_rfl)
@[go_sem] theorem T31_bytes:T31.bytes=24:=eqk (by kernel_rfl)
@[go_sem] theorem T31_want:T31.want=none:=eqk (by kernel_rfl)
@[go_sem] theorem T31_desc:T31.desc=.slice 122:=eqk (by kernel_rfl)
@[go_sem] theorem T31_arr:T31.arr=none:=eqk (by kernel_rfl)
@[go_sem] theorem T31_zero:T31.zero=some (.slice none 0 0):=eqk (by kernel_rfl)
@[go_sem] theorem T31_zeroD:zeroD T31=some (.sl none []):=eqk (by kernel_rfl)
@[go_sem] theorem T31_zeroElem:zeroElem T31=some (.sl none []):=eqk (by kernel_rfl)
@[go_sem ↓] theorem T31_zs:(∃z,T31.zero=some z/\z.cells.size=T31.size)=True:=by
 refine eq_true ⟨_,T31_zero,?_⟩
 kernel_rfl
noncomputable def T32:Ty:=(tyOf Try.prog 32).getD ⟨false,0,0,none,.bool⟩
@[go_sem] theorem ty32:tyOf Try.prog 32=some T32:=eqk (by kernel_rfl)
@[go_sem] theorem T32_agg:T32.agg=false:=eqk (by kernel_rfl)
@[go_sem] theorem T32_size:T32.size=1:=eqk (by kernel_rfl)
@[go_sem] theorem T32_bytes:T32.bytes=24:=eqk (by kernel_rfl)
@[go_sem] theorem T32_want:T32.want=none:=eqk (by kernel_rfl)
@[go_sem] theorem T32_desc:T32.desc=.slice 5:=eqk (by kernel_rfl)
@[go_sem] theorem T32_arr:T32.arr=none:=eqk (by kernel_rfl)
@[go_sem] theorem T32_zero:T32.zero=some (.slice none 0 0):=eqk (by kernel_rfl)
@[go_sem] theorem T32_zeroD:zeroD T32=some (.sl none []):=eqk (by kernel_rfl)
@[go_sem] theorem T32_zeroElem:zeroElem T32=some (.sl none []):=eqk (by kernel_rfl)
@[go_sem ↓] theorem T32_zs:(∃z,T32.zero=some z/\z.cells.size=T32.size)=True:=by
 refine eq_true ⟨_,T32_zero,?_⟩
 kernel_rfl
noncomputable def T34:Ty:=(tyOf Try.prog 34).getD ⟨false,0,0,none,.bool⟩
@[go_sem] theorem ty34:tyOf Try.prog 34=some T34:=eqk (by kernel_rfl)
@[go_sem] theorem T34_agg:T34.agg=true:=eqk (by kernel_rfl)
@[go_sem] theorem T34_size:T34.size=16:=eqk (by kernel_rfl)
@[go_sem] theorem T34_bytes:T34.bytes=144:=eqk (by kernel_rfl)
@[go_sem] theorem T34_want:T34.want=some 16:=eqk (by kernel_rfl)
@[go_sem] theorem T34_arr:T34.arr=none:=eqk (by kernel_rfl)
@[go_sem] theorem T34_places:placesOf Try.prog T34=some [(0,1),(1,1),(2,1),(3,1),(4,1),(5,1),(6,1),(7,1),(8,1),(9,1),(10,1),(11,1),(12,1),(13,1),(14,1),(15,1)]:=eqk (by kernel_rfl)
@[go_sem] theorem T34_f0:fieldOf Try.prog (some T34) 0=some (0,T3):=eqk (by kernel_rfl)
@[go_sem] theorem T34_f1:fieldOf Try.prog (some T34) 1=some (1,T3):=eqk (by kernel_rfl)
@[go_sem] theorem T34_f2:fieldOf Try.prog (some T34) 2=some (2,T3):=eqk (by kernel_rfl)
@[go_sem] theorem T34_f3:fieldOf Try.prog (some T34) 3=some (3,T3):=eqk (by kernel_rfl)
@[go_sem] theorem T34_f4:fieldOf Try.prog (some T34) 4=some (4,T3):=eqk (by kernel_rfl)
@[go_sem] theorem T34_f5:fieldOf Try.prog (some T34) 5=some (5,T3):=eqk (by kernel_rfl)
@[go_sem] theorem T34_f6:fieldOf Try.prog (some T34) 6=some (6,T3):=eqk (by kernel_rfl)
@[go_sem] theorem T34_f7:fieldOf Try.prog (some T34) 7=some (7,T3):=eqk (by kernel_rfl)
@[go_sem] theorem T34_f8:fieldOf Try.prog (some T34) 8=some (8,T3):=eqk (by kernel_rfl)
@[go_sem] theorem T34_f9:fieldOf Try.prog (some T34) 9=some (9,T3):=eqk (by kernel_rfl)
@[go_sem] theorem T34_f10:fieldOf Try.prog (some T34) 10=some (10,T4):=eqk (by kernel_rfl)
@[go_sem] theorem T34_f11:fieldOf Try.prog (some T34) 11=some (11,T4):=eqk (by kernel_rfl)
@[go_sem] theorem T34_f12:fieldOf Try.prog (some T34) 12=some (12,T4):=eqk (by kernel_rfl)
@[go_sem] theorem T34_f13:fieldOf Try.prog (some T34) 13=some (13,T3):=eqk (by kernel_rfl)
@[go_sem] theorem T34_f14:fieldOf Try.prog (some T34) 14=some (14,T31):=eqk (by kernel_rfl)
@[go_sem] theorem T34_f15:fieldOf Try.prog (some T34) 15=some (15,T32):=eqk (by kernel_rfl)
@[go_sem] theorem T34_zero:T34.zero=some (.agg #[.int .i64 0,.int .i64 0,.int .i64 0,.int .i64 0,.int .i64 0,.int .i64 0,.int .i64 0,.int .i64 0,.int .i64 0,.int .i64 0,.bool false,.bool false,.bool false,.int .i64 0,.slice none 0 0,.slice none 0 0]):=eqk (by kernel_rfl)
@[go_sem] theorem T34_zeroElem:zeroElem T34=some (.agg [.int .i64 0,.int .i64 0,.int .i64 0,.int .i64 0,.int .i64 0,.int .i64 0,.int .i64 0,.int .i64 0,.int .i64 0,.int .i64 0,.bool false,.bool false,.bool false,.int .i64 0,.sl none [],.sl none []]):=eqk (by kernel_rfl)
@[go_sem ↓] theorem T34_zs:(∃z,T34.zero=some z/\z.cells.size=T34.size)=True:=by
 refine eq_true ⟨_,T34_zero,?_⟩
 kernel_rfl
noncomputable def T36:Ty:=(tyOf Try.prog 36).getD ⟨false,0,0,none,.bool⟩
@[go_sem] theorem ty36:tyOf Try.prog 36=some T36:=eqk (by kernel_rfl)
@[go_sem] theorem T36_agg:T36.agg=true:=eqk (by kernel_rfl)
@[go_sem] theorem T36_size:T36.size=3:=eqk (by kernel_rfl)
@[go_sem] theorem T36_bytes:T36.bytes=24:=eqk (by kernel_rfl)
@[go_sem] theorem T36_want:T36.want=some 3:=eqk (by kernel_rfl)
@[go_sem] theorem T36_arr:T36.arr=none:=eqk (by kernel_rfl)
@[go_sem] theorem T36_places:placesOf Try.prog T36=some [(0,1),(1,1),(2,1)]:=eqk (by kernel_rfl)
@[go_sem] theorem T36_f0:fieldOf Try.prog (some T36) 0=some (0,T3):=eqk (by kernel_rfl)
@[go_sem] theorem T36_f1:fieldOf Try.prog (some T36) 1=some (1,T3):=eqk (by kernel_rfl)
@[go_sem] theorem T36_f2:fieldOf Try.prog (some T36) 2=some (2,T3):=eqk (by kernel_rfl)
@[go_sem] theorem T36_zero:T36.zero=some (.agg #[.int .i64 0,.int .i64 0,.int .i64 0]):=eqk (by kernel_rfl)
@[go_sem] theorem T36_zeroElem:zeroElem T36=some (.agg [.int .i64 0,.int .i64 0,.int .i64 0]):=eqk (by kernel_rfl)
@[go_sem ↓] theorem T36_zs:(∃z,T36.zero=some z/\z.cells.size=T36.size)=True:=by
 refine eq_true ⟨_,T36_zero,?_⟩
 kernel_rfl
noncomputable def T38:Ty:=(tyOf Try.prog 38).getD ⟨false,0,0,none,.bool⟩
@[go_sem] theorem ty38:tyOf Try.prog 38=some T38:=eqk (by kernel_rfl)
@[go_sem] theorem T38_agg:T38.agg=false:=eqk (by kernel_rfl)
@[go_sem] theorem T38_size:T38.size=1:=eqk (by kernel_rfl)
@[go_sem] theorem T38_bytes:T38.bytes=24:=eqk (by kernel_rfl)
@[go_sem] theorem T38_want:T38.want=none:=eqk (by kernel_rfl)
@[go_sem] theorem T38_desc:T38.desc=.slice 42:=eqk (by kernel_rfl)
@[go_sem] theorem T38_arr:T38.arr=none:=eqk (by kernel_rfl)
@[go_sem] theorem T38_zero:T38.zero=some (.slice none 0 0):=eqk (by kernel_rfl)
@[go_sem] theorem T38_zeroD:zeroD T38=some (.sl none []):=eqk (by kernel_rfl)
@[go_sem] theorem T38_zeroElem:zeroElem T38=some (.sl none []):=eqk (by kernel_rfl)
@[go_sem ↓] theorem T38_zs:(∃z,T38.zero=some z/\z.cells.size=T38.size)=True:=by
 refine eq_true ⟨_,T38_zero,?_⟩
 kernel_rfl
noncomputable def T42:Ty:=(tyOf Try.prog 42).getD ⟨false,0,0,none,.bool⟩
@[go_sem] theorem ty42:tyOf Try.prog 42=some T42:=eqk (by kernel_rfl)
@[go_sem] theorem T42_agg:T42.agg=true:=eqk (by kernel_rfl)
@[go_sem] theorem T42_size:T42.size=3:=eqk (by kernel_rfl)
@[go_sem] theorem T42_bytes:T42.bytes=24:=eqk (by kernel_rfl)
@[go_sem] theorem T42_want:T42.want=some 3:=eqk (by kernel_rfl)
@[go_sem] theorem T42_arr:T42.arr=none:=eqk (by kernel_rfl)
@[go_sem] theorem T42_places:placesOf Try.prog T42=some [(0,1),(1,1),(2,1)]:=eqk (by kernel_rfl)
@[go_sem] theorem T42_f0:fieldOf Try.prog (some T42) 0=some (0,T3):=eqk (by kernel_rfl)
@[go_sem] theorem T42_f1:fieldOf Try.prog (some T42) 1=some (1,T3):=eqk (by kernel_rfl)
@[go_sem] theorem T42_f2:fieldOf Try.prog (some T42) 2=some (2,T3):=eqk (by kernel_rfl)
@[go_sem] theorem T42_zero:T42.zero=some (.agg #[.int .i64 0,.int .i64 0,.int .i64 0]):=eqk (by kernel_rfl)
@[go_sem] theorem T42_zeroElem:zeroElem T42=some (.agg [.int .i64 0,.int .i64 0,.int .i64 0]):=eqk (by kernel_rfl)
@[go_sem ↓] theorem T42_zs:(∃z,T42.zero=some z/\z.cells.size=T42.size)=True:=by
 refine eq_true ⟨_,T42_zero,?_⟩
 kernel_rfl
noncomputable def T45:Ty:=(tyOf Try.prog 45).getD ⟨false,0,0,none,.bool⟩
@[go_sem] theorem ty45:tyOf Try.prog 45=some T45:=eqk (by kernel_rfl)
@[go_sem] theorem T45_agg:T45.agg=true:=eqk (by kernel_rfl)
@[go_sem] theorem T45_size:T45.size=16:=eqk (by kernel_rfl)
@[go_sem] theorem T45_bytes:T45.bytes=16:=eqk (by kernel_rfl)
@[go_sem] theorem T45_want:T45.want=some 16:=eqk (by kernel_rfl)
@[go_sem] theorem T45_desc:T45.desc=.array 16 4:=eqk (by kernel_rfl)
@[go_sem] theorem T45_arr:T45.arr=some (16,4):=eqk (by kernel_rfl)
@[go_sem] theorem T45_places:placesOf Try.prog T45=some [(0,1),(1,1),(2,1),(3,1),(4,1),(5,1),(6,1),(7,1),(8,1),(9,1),(10,1),(11,1),(12,1),(13,1),(14,1),(15,1)]:=eqk (by kernel_rfl)
@[go_sem] theorem T45_zero:T45.zero=some (.agg #[.bool false,.bool false,.bool false,.bool false,.bool false,.bool false,.bool false,.bool false,.bool false,.bool false,.bool false,.bool false,.bool false,.bool false,.bool false,.bool false]):=eqk (by kernel_rfl)
@[go_sem] theorem T45_zeroElem:zeroElem T45=some (.agg [.bool false,.bool false,.bool false,.bool false,.bool false,.bool false,.bool false,.bool false,.bool false,.bool false,.bool false,.bool false,.bool false,.bool false,.bool false,.bool false]):=eqk (by kernel_rfl)
@[go_sem ↓] theorem T45_zs:(∃z,T45.zero=some z/\z.cells.size=T45.size)=True:=by
 refine eq_true ⟨_,T45_zero,?_⟩
 kernel_rfl
noncomputable def T46:Ty:=(tyOf Try.prog 46).getD ⟨false,0,0,none,.bool⟩
@[go_sem] theorem ty46:tyOf Try.prog 46=some T46:=eqk (by kernel_rfl)
@[go_sem] theorem T46_agg:T46.agg=true:=eqk (by kernel_rfl)
@[go_sem] theorem T46_size:T46.size=64:=eqk (by kernel_rfl)
@[go_sem] theorem T46_bytes:T46.bytes=64:=eqk (by kernel_rfl)
@[go_sem] theorem T46_want:T46.want=some 64:=eqk (by kernel_rfl)
@[go_sem] theorem T46_desc:T46.desc=.array 4 45:=eqk (by kernel_rfl)
@[go_sem] theorem T46_arr:T46.arr=none:=eqk (by kernel_rfl)
@[go_sem] theorem T46_places:placesOf Try.prog T46=some [(0,16),(16,16),(32,16),(48,16)]:=eqk (by kernel_rfl)
noncomputable def T48:Ty:=(tyOf Try.prog 48).getD ⟨false,0,0,none,.bool⟩
@[go_sem] theorem ty48:tyOf Try.prog 48=some T48:=eqk (by kernel_rfl)
@[go_sem] theorem T48_agg:T48.agg=true:=eqk (by kernel_rfl)
@[go_sem] theorem T48_size:T48.size=4:=eqk (by kernel_rfl)
@[go_sem] theorem T48_bytes:T48.bytes=4:=eqk (by kernel_rfl)
@[go_sem] theorem T48_want:T48.want=some 4:=eqk (by kernel_rfl)
@[go_sem] theorem T48_arr:T48.arr=none:=eqk (by kernel_rfl)
@[go_sem] theorem T48_places:placesOf Try.prog T48=some [(0,1),(1,1),(2,1),(3,1)]:=eqk (by kernel_rfl)
@[go_sem] theorem T48_f0:fieldOf Try.prog (some T48) 0=some (0,T5):=eqk (by kernel_rfl)
@[go_sem] theorem T48_f1:fieldOf Try.prog (some T48) 1=some (1,T5):=eqk (by kernel_rfl)
@[go_sem] theorem T48_f2:fieldOf Try.prog (some T48) 2=some (2,T5):=eqk (by kernel_rfl)
@[go_sem] theorem T48_f3:fieldOf Try.prog (some T48) 3=some (3,T4):=eqk (by kernel_rfl)
@[go_sem] theorem T48_zero:T48.zero=some (.agg #[.int .u8 0,.int .u8 0,.int .u8 0,.bool false]):=eqk (by kernel_rfl)
@[go_sem] theorem T48_zeroElem:zeroElem T48=some (.agg [.int .u8 0,.int .u8 0,.int .u8 0,.bool false]):=eqk (by kernel_rfl)
@[go_sem ↓] theorem T48_zs:(∃z,T48.zero=some z/\z.cells.size=T48.size)=True:=by
 refine eq_true ⟨_,T48_zero,?_⟩
 kernel_rfl
noncomputable def T53:Ty:=(tyOf Try.prog 53).getD ⟨false,0,0,none,.bool⟩
@[go_sem] theorem ty53:tyOf Try.prog 53=some T53:=eqk (by kernel_rfl)
@[go_sem] theorem T53_agg:T53.agg=false:=eqk (by kernel_rfl)
@[go_sem] theorem T53_size:T53.size=1:=eqk (by kernel_rfl)
@[go_sem] theorem T53_bytes:T53.bytes=24:=eqk (by kernel_rfl)
@[go_sem] theorem T53_want:T53.want=none:=eqk (by kernel_rfl)
@[go_sem] theorem T53_desc:T53.desc=.slice 55:=eqk (by kernel_rfl)
@[go_sem] theorem T53_arr:T53.arr=none:=eqk (by kernel_rfl)
@[go_sem] theorem T53_zero:T53.zero=some (.slice none 0 0):=eqk (by kernel_rfl)
@[go_sem] theorem T53_zeroD:zeroD T53=some (.sl none []):=eqk (by kernel_rfl)
@[go_sem] theorem T53_zeroElem:zeroElem T53=some (.sl none []):=eqk (by kernel_rfl)
@[go_sem ↓] theorem T53_zs:(∃z,T53.zero=some z/\z.cells.size=T53.size)=True:=by
 refine eq_true ⟨_,T53_zero,?_⟩
 kernel_rfl
noncomputable def T55:Ty:=(tyOf Try.prog 55).getD ⟨false,0,0,none,.bool⟩
@[go_sem] theorem ty55:tyOf Try.prog 55=some T55:=eqk (by kernel_rfl)
@[go_sem] theorem T55_agg:T55.agg=true:=eqk (by kernel_rfl)
@[go_sem] theorem T55_size:T55.size=2:=eqk (by kernel_rfl)
@[go_sem] theorem T55_bytes:T55.bytes=16:=eqk (by kernel_rfl)
@[go_sem] theorem T55_want:T55.want=some 2:=eqk (by kernel_rfl)
@[go_sem] theorem T55_arr:T55.arr=none:=eqk (by kernel_rfl)
@[go_sem] theorem T55_places:placesOf Try.prog T55=some [(0,1),(1,1)]:=eqk (by kernel_rfl)
@[go_sem] theorem T55_f0:fieldOf Try.prog (some T55) 0=some (0,T3):=eqk (by kernel_rfl)
@[go_sem] theorem T55_f1:fieldOf Try.prog (some T55) 1=some (1,T3):=eqk (by kernel_rfl)
@[go_sem] theorem T55_zero:T55.zero=some (.agg #[.int .i64 0,.int .i64 0]):=eqk (by kernel_rfl)
@[go_sem] theorem T55_zeroElem:zeroElem T55=some (.agg [.int .i64 0,.int .i64 0]):=eqk (by kernel_rfl)
@[go_sem ↓] theorem T55_zs:(∃z,T55.zero=some z/\z.cells.size=T55.size)=True:=by
 refine eq_true ⟨_,T55_zero,?_⟩
 kernel_rfl
noncomputable def T67:Ty:=(tyOf Try.prog 67).getD ⟨false,0,0,none,.bool⟩
@[go_sem] theorem ty67:tyOf Try.prog 67=some T67:=eqk (by kernel_rfl)
@[go_sem] theorem T67_agg:T67.agg=false:=eqk (by kernel_rfl)
@[go_sem] theorem T67_size:T67.size=1:=eqk (by kernel_rfl)
@[go_sem] theorem T67_bytes:T67.bytes=8:=eqk (by kernel_rfl)
@[go_sem] theorem T67_want:T67.want=none:=eqk (by kernel_rfl)
@[go_sem] theorem T67_desc:T67.desc=.map 55 4:=eqk (by kernel_rfl)
@[go_sem] theorem T67_arr:T67.arr=none:=eqk (by kernel_rfl)
@[go_sem] theorem T67_zero:T67.zero=some (.map none):=eqk (by kernel_rfl)
@[go_sem ↓] theorem T67_zs:(∃z,T67.zero=some z/\z.cells.size=T67.size)=True:=by
 refine eq_true ⟨_,T67_zero,?_⟩
 kernel_rfl
noncomputable def T73:Ty:=(tyOf Try.prog 73).getD ⟨false,0,0,none,.bool⟩
@[go_sem] theorem ty73:tyOf Try.prog 73=some T73:=eqk (by kernel_rfl)
@[go_sem] theorem T73_agg:T73.agg=false:=eqk (by kernel_rfl)
@[go_sem] theorem T73_size:T73.size=1:=eqk (by kernel_rfl)
@[go_sem] theorem T73_bytes:T73.bytes=24:=eqk (by kernel_rfl)
@[go_sem] theorem T73_want:T73.want=none:=eqk (by kernel_rfl)
@[go_sem] theorem T73_desc:T73.desc=.slice 3:=eqk (by kernel_rfl)
@[go_sem] theorem T73_arr:T73.arr=none:=eqk (by kernel_rfl)
@[go_sem] theorem T73_zero:T73.zero=some (.slice none 0 0):=eqk (by kernel_rfl)
@[go_sem] theorem T73_zeroD:zeroD T73=some (.sl none []):=eqk (by kernel_rfl)
@[go_sem] theorem T73_zeroElem:zeroElem T73=some (.sl none []):=eqk (by kernel_rfl)
@[go_sem ↓] theorem T73_zs:(∃z,T73.zero=some z/\z.cells.size=T73.size)=True:=by
 refine eq_true ⟨_,T73_zero,?_⟩
 kernel_rfl
noncomputable def T86:Ty:=(tyOf Try.prog 86).getD ⟨false,0,0,none,.bool⟩
@[go_sem] theorem ty86:tyOf Try.prog 86=some T86:=eqk (by kernel_rfl)
@[go_sem] theorem T86_agg:T86.agg=false:=eqk (by kernel_rfl)
@[go_sem] theorem T86_size:T86.size=1:=eqk (by kernel_rfl)
@[go_sem] theorem T86_bytes:T86.bytes=4:=eqk (by kernel_rfl)
@[go_sem] theorem T86_want:T86.want=none:=eqk (by kernel_rfl)
@[go_sem] theorem T86_desc:T86.desc=.int .u32:=eqk (by kernel_rfl)
@[go_sem] theorem T86_arr:T86.arr=none:=eqk (by kernel_rfl)
@[go_sem] theorem T86_zero:T86.zero=some (.int .u32 0):=eqk (by kernel_rfl)
@[go_sem] theorem T86_zeroD:zeroD T86=some (.int .u32 0):=eqk (by kernel_rfl)
@[go_sem] theorem T86_zeroElem:zeroElem T86=some (.int .u32 0):=eqk (by kernel_rfl)
@[go_sem ↓] theorem T86_zs:(∃z,T86.zero=some z/\z.cells.size=T86.size)=True:=by
 refine eq_true ⟨_,T86_zero,?_⟩
 kernel_rfl
noncomputable def T88:Ty:=(tyOf Try.prog 88).getD ⟨false,0,0,none,.bool⟩
@[go_sem] theorem ty88:tyOf Try.prog 88=some T88:=eqk (by kernel_rfl)
@[go_sem] theorem T88_agg:T88.agg=false:=eqk (by kernel_rfl)
@[go_sem] theorem T88_size:T88.size=1:=eqk (by kernel_rfl)
@[go_sem] theorem T88_bytes:T88.bytes=8:=eqk (by kernel_rfl)
@[go_sem] theorem T88_want:T88.want=none:=eqk (by kernel_rfl)
@[go_sem] theorem T88_desc:T88.desc=.int .u64:=eqk (by kernel_rfl)
@[go_sem] theorem T88_arr:T88.arr=none:=eqk (by kernel_rfl)
@[go_sem] theorem T88_zero:T88.zero=some (.int .u64 0):=eqk (by kernel_rfl)
@[go_sem] theorem T88_zeroD:zeroD T88=some (.int .u64 0):=eqk (by kernel_rfl)
@[go_sem] theorem T88_zeroElem:zeroElem T88=some (.int .u64 0):=eqk (by kernel_rfl)
@[go_sem ↓] theorem T88_zs:(∃z,T88.zero=some z/\z.cells.size=T88.size)=True:=by
 refine eq_true ⟨_,T88_zero,?_⟩
 kernel_rfl
noncomputable def T109:Ty:=(tyOf Try.prog 109).getD ⟨false,0,0,none,.bool⟩
@[go_sem] theorem ty109:tyOf Try.prog 109=some T109:=eqk (by kernel_rfl)
@[go_sem] theorem T109_agg:T109.agg=true:=eqk (by kernel_rfl)
@[go_sem] theorem T109_size:T109.size=0:=eqk (by kernel_rfl)
@[go_sem] theorem T109_bytes:T109.bytes=0:=eqk (by kernel_rfl)
@[go_sem] theorem T109_want:T109.want=some 0:=eqk (by kernel_rfl)
@[go_sem] theorem T109_desc:T109.desc=.array 0 16:=eqk (by kernel_rfl)
@[go_sem] theorem T109_arr:T109.arr=some (0,16):=eqk (by kernel_rfl)
@[go_sem] theorem T109_zero:T109.zero=some (.agg #[]):=eqk (by kernel_rfl)
@[go_sem] theorem T109_zeroElem:zeroElem T109=some (.agg []):=eqk (by kernel_rfl)
@[go_sem ↓] theorem T109_zs:(∃z,T109.zero=some z/\z.cells.size=T109.size)=True:=by
 refine eq_true ⟨_,T109_zero,?_⟩
 kernel_rfl
noncomputable def T122:Ty:=(tyOf Try.prog 122).getD ⟨false,0,0,none,.bool⟩
@[go_sem] theorem ty122:tyOf Try.prog 122=some T122:=eqk (by kernel_rfl)
@[go_sem] theorem T122_agg:T122.agg=true:=eqk (by kernel_rfl)
@[go_sem] theorem T122_size:T122.size=2:=eqk (by kernel_rfl)
@[go_sem] theorem T122_bytes:T122.bytes=16:=eqk (by kernel_rfl)
@[go_sem] theorem T122_want:T122.want=some 2:=eqk (by kernel_rfl)
@[go_sem] theorem T122_arr:T122.arr=none:=eqk (by kernel_rfl)
@[go_sem] theorem T122_places:placesOf Try.prog T122=some [(0,1),(1,1)]:=eqk (by kernel_rfl)
@[go_sem] theorem T122_f0:fieldOf Try.prog (some T122) 0=some (0,T3):=eqk (by kernel_rfl)
@[go_sem] theorem T122_f1:fieldOf Try.prog (some T122) 1=some (1,T3):=eqk (by kernel_rfl)
@[go_sem] theorem T122_zero:T122.zero=some (.agg #[.int .i64 0,.int .i64 0]):=eqk (by kernel_rfl)
@[go_sem] theorem T122_zeroElem:zeroElem T122=some (.agg [.int .i64 0,.int .i64 0]):=eqk (by kernel_rfl)
@[go_sem ↓] theorem T122_zs:(∃z,T122.zero=some z/\z.cells.size=T122.size)=True:=by
 refine eq_true ⟨_,T122_zero,?_⟩
 kernel_rfl
end Go.AM
namespace Go.AM
open Go Go.Proofs
theorem mixed:Try.prog.follows .mixedOrders=true:=by kernel_rfl
theorem noMk{Γ:Nat->Contract}:MakeFns Γ []:=fun g _ _ _ _ _ h=>by rcases h with h|h <;> cases h
theorem pureNo{Γ:Nat->Contract}:PureFns Γ []:=fun g _ _ _ _ _ h=>by cases h
theorem made_of{l:List (Nat×Contract)}{mf:List Nat}(h:∀g C,(g,C)∈l->(∃R,C=dataC R)∨∃R,C=madeC R):MakeFns (tbl l) mf:=by
 rintro g args own v own' mv hg ⟨C,hm,hC⟩
 rcases h g C hm with⟨R,rfl⟩|⟨R,rfl⟩
 ·obtain⟨_,_,_,h1,h2,_⟩:=hC
  exact⟨⟨[],by rw[h1,List.append_nil]⟩,h2⟩
 ·obtain⟨_,_,ob,_,_,_,_,h1,h2⟩:=hC
  exact⟨⟨_,h1⟩,h2⟩
abbrev Str:=List UInt8
structure PPool where
 name:Str
 size:Int
 res:Int
deriving Inhabited,DecidableEq
structure PStep where
 kind:Int
 on:Int
 cnt:Int
 deep:Bool
deriving Inhabited,DecidableEq
structure PCls where
 name:Str
 workers:Int
 server:Bool
 steps:List PStep
deriving Inhabited,DecidableEq
structure PSys where
 pools:List PPool
 locks:List Str
 classes:List PCls
deriving Inhabited,DecidableEq
abbrev intsD(u:List Int):List D:=u.map (.int .i64)
abbrev boolsD(b:List Bool):List D:=b.map .bool
def poolD(p:PPool):D:=.agg [.str p.name,.int .i64 p.size,.int .i64 p.res]
def stepD(s:PStep):D:=.agg [.int .i64 s.kind,.int .i64 s.on,.int .i64 s.cnt,.bool s.deep]
def stepsD(l:List PStep):D:=.sl (some 4) (l.map stepD)
def clsD(c:PCls):D:=.agg [.str c.name,.int .i64 c.workers,.bool c.server,stepsD c.steps]
def sysD(s:PSys):D:=.agg [.sl (some 3) (s.pools.map poolD),.sl none (s.locks.map .str),.sl (some 4) (s.classes.map clsD)]
def PStep.ok(s:PStep):Prop:=inR .i64 s.kind/\inR .i64 s.on/\inR .i64 s.cnt
def PPool.ok(p:PPool):Prop:=inR .i64 p.size/\inR .i64 p.res
def PCls.ok(c:PCls):Prop:=inR .i64 c.workers/\(∀s∈c.steps,s.ok)/\c.steps.length<4611686018427387904
structure PSys.ok (s:PSys):Prop where
 pools:∀p∈s.pools,p.ok
 classes:∀c∈s.classes,c.ok
 np:s.pools.length<4611686018427387904
 nl:s.locks.length<4611686018427387904
 nc:s.classes.length<4611686018427387904
end Go.AM
namespace Go.AM
open Go Go.Proofs Go.Sort
def ispR(ds:List D)(v:AV):Prop:=∃a b:Int,ds=[.int .i64 a,.int .i64 b]/\0<=a/\a<4/\0<=b/\b<16/\v=.dat (.bool true)
theorem isPage_ok:OkF Try.prog 26 (dataC ispR):=by
 refine okF_data Try.func26 rfl (by decide) ?_
 rintro ds v ⟨a,b,rfl,h1,h2,h3,h4,rfl⟩
 refine sem_of_awp (Γ:=tbl []) okG_nil _ _ _ ?_
 simp only[go_sem,Try.ntmps26,h1,h2,h3,h4,decide_true]
 exact post_data (.inl rfl) [4] rfl trivial rfl
def atR(ds:List D)(v:AV):Prop:=∃x:Elm 3,ds=[x.d]/\v=.dat (plD x)
theorem at_ok:OkF Try.prog 17 (dataC atR):=by
 refine okF_data Try.func17 rfl (by decide) ?_
 rintro ds v ⟨x,rfl,rfl⟩
 rw[Elm.d3]
 unfold plD
 generalize x.1.getD 0 0=a
 generalize x.1.getD 1 0=b
 generalize x.1.getD 2 0=c
 refine sem_of_awp (Γ:=tbl []) okG_nil _ _ _ ?_
 simp only[go_sem,Try.ntmps17]
 refine post_res (.inl rfl) [.cell 2 55] rfl ?_
 simp only[go_sem]
 exact le_fin (by simp only[go_sem]) (by simp only[go_sem])
def chkWR(ds:List D)(v:AV):Prop:=∃L:List (Elm 3),L.length<=1000000/\PgOk L/\ds=[.sl (some 3) (L.map Elm.d)]/\v=.dat (.int .i64 0)
abbrev tabCW:List (Nat×Contract):=[(26,dataC ispR),(17,dataC atR)]
theorem tabCW_ok:OkG Try.prog (tbl tabCW):=okG_cons isPage_ok (okG_cons at_ok okG_nil)
theorem wide0:wideKey Try.prog 55 (.agg [.int .i64 0,.int .i64 0])=true:=by kernel_rfl
theorem seenM_len(L:List (Elm 3)):(seenM L).length=L.length:=by unfold seenM;rw[List.length_map]
theorem wcheck_ok:OkF Try.prog 12 (dataC chkWR):=by
 refine okF_data Try.func12 rfl (by decide) ?_
 rintro ds v ⟨L,hL,⟨hr,hn⟩,rfl,rfl⟩
 refine sem_of_awp (Γ:=tbl tabCW) tabCW_ok _ _ _ ?_
 have hl:(L.map Elm.d).length=L.length:=List.length_map _
 simp only[go_sem,Try.ntmps12,hl]
 refine sem_loop (fun k:Nat=>⟨slotsOf 33 [(0,.dat (.sl (some 3) (L.map Elm.d))),(2,.dat (.int .i64 0)),(3,.map 0),(7,.dat (.sl (some 3) (L.map Elm.d))),(8,.dat (.int .i64 L.length)),(9,.dat (.int .i64 k))],
  [.map (seenM (L.take k))],0,[]⟩) (fun k=>k<=L.length) (fun k=>L.length - k) 0 (Nat.zero_le _) ?_ ?_
 ·exact le_slots' (by simp only[go_sem,Int.natCast_zero])
 intro k hk
 refine sem_of_awp (Γ:=tbl tabCW) tabCW_ok _ _ _ ?_
 rcases Nat.lt_or_ge k L.length with hlt|hge
 ·have k1:(k:Int)<L.length:=by omega
  have k2:(0:Int)<=k:=by omega
  obtain⟨r1,r2,r3,r4,r5⟩:=hr L[k] (List.getElem_mem hlt)
  have hnth:=nth_elm hlt
  have hsn:=seenM_snoc hn hlt
  have r6:¬L[k].1.getD 2 0<0:=by omega
  have hkeys:((seenM (L.take k)).all fun x=>D.isKeyP Try.prog 55 T55.desc x.1)=true:=seenM_keys wide0
  have hkey:D.isKeyP Try.prog 55 T55.desc (plD L[k])=true:=isKeyP_of wide0 ⟨rfl,L[k].inR 0,rfl,L[k].inR 1,trivial⟩
  simp only[go_sem,k1,k2,hl,hnth,Int.toNat_natCast,Elm.d3,decide_true]
  refine call_data ispR (by simp) _ _ rfl ⟨_,_,rfl,r1,r2,r3,r4,rfl⟩ (.inl rfl) ?_
  simp only[go_sem,r6,decide_false]
  refine call_data atR (by simp) _ _ rfl ⟨L[k],by rw[Elm.d3],rfl⟩ (.inl rfl) ?_
  simp only[go_sem,hkeys,hkey,hsn]
  refine⟨inR_i64.2 (by omega),k+1,by omega,by omega,?_⟩
  refine le_end (own:=[_]) (ex:=[_]) (Nat.zero_le _) ?_ ?_ ?_
  ·simp only[go_sem,Int.natCast_add,Int.cast_ofNat_Int]
  ·simp only[go_sem]
  ·simp only[go_sem,Obj.under,AV.unders,AV.under]
 ·obtain rfl:k=L.length:=by omega
  have k1:¬(L.length:Int)<L.length:=by omega
  simp only[go_sem,k1,hl,List.take_length,seenM_len,decide_true,decide_false]
  exact⟨inR_i64.2 (by omega),post_data (.inl rfl) [2] rfl trivial rfl⟩
end Go.AM
namespace Go.AM
open Go Go.Proofs Go.Sort
def frD(x:FR):D:=.agg [.int .i64 4,.int .i64 0,.int .i64 0,.int .i64 0,.int .i64 x.f,.int .i64 x.i,.int .i64 0,.int .i64 0,.int .i64 0,.int .i64 x.s,.bool x.d,.bool false,.bool false,.int .i64 0,.sl none [],.sl none []]
theorem nth_frD{l:List FR}{i:Nat}(h:i<l.length):D.nth (l.map frD) i=frD (l.getD i default):=D.nth_map h
def countsR(ds:List D)(v:AV):Prop:=∃x:FR,ds=[frD x]/\v=.dat (.bool x.d)
theorem counts_ok:OkF Try.prog 16 (dataC countsR):=by
 refine okF_data Try.func16 rfl (by decide) ?_
 rintro ds v ⟨⟨f,i,s,d⟩,rfl,rfl⟩
 refine sem_of_awp (Γ:=tbl []) okG_nil _ _ _ ?_
 cases d
 ·simp only[go_sem,Try.ntmps16,frD]
  exact post_data (.inl rfl) [2] rfl trivial rfl
 ·simp only[go_sem,Try.ntmps16,frD]
  exact post_data (.inl rfl) [2] rfl trivial rfl
abbrev frO(l:List FR):Obj:=.row (some 16) (l.map frD)
def countR(xs:List AV)(obs:List Obj)(v0:AV)(obs' ex:List Obj)(mv0:List Nat):Prop:=∃l:List FR,l.length<=1000000/\xs=[.sl 0 0 l.length]/\obs=[frO l]/\v0=.dat (.int .i64 (cntF l))/\obs'=[frO l]/\ex=[]/\mv0=[]
theorem cntF_take{l:List FR}{k:Nat}(h:k<l.length):cntF (l.take (k+1))=cntF (l.take k)+if (l.getD k default).d then 1 else 0:=by
 unfold cntF
 rw[List.take_succ_eq_append_getElem h,List.filter_append,List.length_append,List.getD_eq_getElem?_getD,List.getElem?_eq_getElem h]
 simp only[Option.getD_some,List.filter_cons,List.filter_nil]
 split <;> rfl
theorem cntF_le(l:List FR)(k:Nat):cntF (l.take k)<=k:=by
 unfold cntF
 refine Nat.le_trans (List.length_filter_le _ _) ?_
 rw[List.length_take];omega
abbrev tabCN:List (Nat×Contract):=[(16,dataC countsR)]
theorem tabCN_ok:OkG Try.prog (tbl tabCN):=okG_cons counts_ok okG_nil
theorem count_ok:OkF Try.prog 8 (lentC countR):=by
 refine okF_lent Try.func8 rfl (by decide) ?_
 rintro xs obs v0 obs' ex mv0 ⟨l,hl,rfl,rfl,rfl,rfl,rfl,rfl⟩
 refine sem_of_awp (Γ:=tbl tabCN) tabCN_ok _ _ _ ?_
 have hll:(l.map frD).length=l.length:=List.length_map _
 simp only[go_sem,Try.ntmps8]
 refine sem_loop (fun k:Nat=>⟨slotsOf 19 [(0,.sl 0 0 l.length),(3,.dat (.int .i64 (cntF (l.take k)))),(6,.dat (.int .i64 l.length)),(7,.dat (.int .i64 k))],[frO l],1,[]⟩)
  (fun k=>k<=l.length) (fun k=>l.length - k) 0 (Nat.zero_le _) ?_ ?_
 ·have c0:cntF ([]:List FR)=0:=rfl
  exact le_slots' (by simp only[go_sem,Int.natCast_zero,List.take_zero,c0])
 intro k hk
 refine sem_of_awp (Γ:=tbl tabCN) tabCN_ok _ _ _ ?_
 rcases Nat.lt_or_ge k l.length with hlt|hge
 ·have k1:(k:Int)<l.length:=by omega
  have k2:(0:Int)<=k:=by omega
  have hct:=cntF_take hlt
  have hcl:=cntF_le l k
  have hnx:=nth_frD hlt
  simp only[go_sem,k1,k2,hll,hnx,hlt,Int.toNat_natCast,decide_true]
  refine call_data countsR (by simp) _ _ rfl ⟨_,rfl,rfl⟩ (.inl rfl) ?_
  cases hd:(l.getD k default).d with
  | true =>
   rw[hd,if_pos rfl]at hct
   simp only[go_sem]
   refine⟨inR_i64.2 (by omega),inR_i64.2 (by omega),k+1,by omega,by omega,?_⟩
   rw[hct]
   exact le_slots' (by simp only[go_sem,Int.natCast_add,Int.cast_ofNat_Int])
  | false =>
   rw[hd,if_neg (by decide),Nat.add_zero]at hct
   simp only[go_sem]
   refine⟨inR_i64.2 (by omega),k+1,by omega,by omega,?_⟩
   rw[hct]
   exact le_slots' (by simp only[go_sem,Int.natCast_add,Int.cast_ofNat_Int])
 ·obtain rfl:k=l.length:=by omega
  have k1:¬(l.length:Int)<l.length:=by omega
  simp only[go_sem,k1,List.take_length,decide_false]
  refine post_resO (.inl rfl) [.tmp 2] rfl (fun _ h=>h) ?_
  simp only[go_sem]
  exact Le.refl _
def oldR(xs:List AV)(obs:List Obj)(v0:AV)(obs' ex:List Obj)(mv0:List Nat):Prop:=∃l:List FR,l.length<=1000000/\xs=[.sl 0 0 l.length]/\obs=[frO l]/\v0=.dat (.int .i64 (oldN l l.length))/\obs'=[frO l]/\ex=[]/\mv0=[]
theorem oldest_ok:OkF Try.prog 9 (lentC oldR):=by
 refine okF_lent Try.func9 rfl (by decide) ?_
 rintro xs obs v0 obs' ex mv0 ⟨l,hl,rfl,rfl,rfl,rfl,rfl,rfl⟩
 refine sem_of_awp (Γ:=tbl []) okG_nil _ _ _ ?_
 have hll:(l.map frD).length=l.length:=List.length_map _
 simp only[go_sem,Try.ntmps9]
 refine sem_loop (fun k:Nat=>⟨slotsOf 41 [(0,.sl 0 0 l.length),(3,.dat (.int .i64 (oldN l k))),(6,.sl 0 0 l.length),(7,.dat (.int .i64 l.length)),(8,.dat (.int .i64 k))],[frO l],1,[]⟩)
  (fun k=>k<=l.length) (fun k=>l.length - k) 0 (Nat.zero_le _) ?_ ?_
 ·exact le_slots' (by simp only[go_sem,Int.natCast_zero,oldN])
 intro k hk
 refine sem_of_awpK [6] (Γ:=tbl []) okG_nil _ _ _ ?_
 rcases Nat.lt_or_ge k l.length with hlt|hge
 ·have k1:(k:Int)<l.length:=by omega
  have k2:(0:Int)<=k:=by omega
  have hsp:=oldN_spec l k (by omega)
  have hon:oldN l (k+1)=if (l.getD k default).d=true/\(oldN l k<0∨(l.getD k default).s<(l.getD (oldN l k).toNat default).s) then (k:Int) else oldN l k:=rfl
  have hnx:=nth_frD hlt
  generalize l.getD k default=y at *
  obtain⟨f,i,s,d⟩:=y
  simp only at hon
  cases d with
  | false =>
   rw[if_neg (fun h=>by cases h.1)]at hon
   simp only[go_sem,k1,k2,hll,hnx,hlt,Int.toNat_natCast,decide_true,frD]
   refine⟨inR_i64.2 (by omega),k+1,by omega,by omega,?_⟩
   rw[hon]
   refine le_end (own:=[_]) (ex:=[_]) (Nat.le_refl _) ?_ ?_ ?_
   ·simp only[go_sem,Int.natCast_add,Int.cast_ofNat_Int]
   ·simp only[go_sem]
   ·simp only[go_sem,Obj.under,AV.unders,AV.under]
  | true =>
   simp only[go_sem,k1,k2,hll,hnx,hlt,Int.toNat_natCast,decide_true,frD]
   refine sem_drawX [] [] (pf:=[]) (mf:=[]) mixed okG_nil pureNo noMk (ones [0,1,2,3,4,5,6,7,8,9,10,11]) (by kernel_rfl) ?_
   rcases hsp with⟨h1,_⟩|⟨a,h1,h2,h3,_⟩
   ·rw[h1,if_pos ⟨rfl,.inl (by decide)⟩]at hon
    have h0:((-1:Int)<0)=True:=by simp
    rw[h1]
    simp only[go_sem,decide_true]
    refine⟨inR_i64.2 (by omega),k+1,by omega,by omega,?_⟩
    rw[hon]
    refine le_end (own:=[_]) (ex:=[_]) (Nat.le_refl _) ?_ ?_ ?_
    ·simp only[go_sem,Int.natCast_add,Int.cast_ofNat_Int]
    ·simp only[go_sem]
    ·simp only[go_sem,Obj.under,AV.unders,AV.under]
   ·have ha:a<l.length:=by omega
    have a0:¬(a:Int)<0:=by omega
    have a1:(0:Int)<=a:=by omega
    have a2:(a:Int)<l.length:=by omega
    have hny:=nth_frD ha
    rw[h1]
    rw[h1,Int.toNat_natCast]at hon
    by_cases hs:s<(l.getD a default).s
    ·rw[if_pos ⟨rfl,.inr hs⟩]at hon
     simp only[go_sem,a0,a1,a2,hll,hny,ha,hs,Int.toNat_natCast,decide_true,decide_false,frD]
     refine⟨inR_i64.2 (by omega),k+1,by omega,by omega,?_⟩
     rw[hon]
     refine le_end (own:=[_]) (ex:=[_]) (Nat.le_refl _) ?_ ?_ ?_
     ·simp only[go_sem,Int.natCast_add,Int.cast_ofNat_Int]
     ·simp only[go_sem]
     ·simp only[go_sem,Obj.under,AV.unders,AV.under]
    ·rw[if_neg (fun h=>h.2.elim (fun h=>by omega) hs)]at hon
     simp only[go_sem,a0,a1,a2,hll,hny,ha,hs,Int.toNat_natCast,decide_true,decide_false,frD]
     refine⟨inR_i64.2 (by omega),k+1,by omega,by omega,?_⟩
     rw[hon]
     refine le_end (own:=[_]) (ex:=[_]) (Nat.le_refl _) ?_ ?_ ?_
     ·simp only[go_sem,Int.natCast_add,Int.cast_ofNat_Int]
     ·simp only[go_sem]
     ·simp only[go_sem,Obj.under,AV.unders,AV.under]
 ·obtain rfl:k=l.length:=by omega
  have k1:¬(l.length:Int)<l.length:=by omega
  simp only[go_sem,k1,List.take_length,decide_false]
  refine post_resO (.inl rfl) [.tmp 2] rfl (fun _ h=>h) ?_
  simp only[go_sem]
  exact Le.refl _
end Go.AM
namespace Go.AM
open Go Go.Proofs Go.Sort
def seenB(acc:List FR):List AV:=(List.range 64).map fun j=>.dat (.bool (frHas acc ((j / 16:Nat):Int) ((j % 16:Nat):Int)))
theorem seenB_len(acc:List FR):(seenB acc).length=64:=by simp[seenB]
theorem seenB_get{acc:List FR}{a b:Nat}(ha:a<4)(hb:b<16):(seenB acc).getD (a*16+b) .top=.dat (.bool (frHas acc (a:Int) (b:Int))):=by
 have h:a*16+b<64:=by omega
 unfold seenB
 rw[List.getD_eq_getElem?_getD,List.getElem?_map,List.getElem?_range h]
 simp only[Option.map_some,Option.getD_some]
 rw[show (a*16+b) / 16=a by omega,show (a*16+b) % 16=b by omega]
theorem frHas_snoc(acc:List FR)(x:FR)(f i:Int):frHas (acc++[x]) f i=(frHas acc f i || (decide (x.f=f) && decide (x.i=i))):=by simp[frHas]
theorem seenB_set{acc:List FR}{x:FR}{a b:Nat}(ha:a<4)(hb:b<16)(h1:x.f=a)(h2:x.i=b):(seenB acc).set (a*16+b) (.dat (.bool true))=seenB (acc++[x]):=by
 apply List.ext_getElem
 ·simp[seenB]
 intro j h3 h4
 rw[List.length_set,seenB_len]at h3
 rw[List.getElem_set]
 unfold seenB
 simp only[List.getElem_map,List.getElem_range,frHas_snoc,h1,h2]
 by_cases e:a*16+b=j
 ·subst e
  rw[if_pos rfl,show (a*16+b) / 16=a by omega,show (a*16+b) % 16=b by omega]
  simp
 ·rw[if_neg e]
  have:¬((a:Int)=((j / 16:Nat):Int)/\(b:Int)=((j % 16:Nat):Int)):=by omega
  rw[← Bool.decide_and,decide_eq_false this,Bool.or_false]
theorem z46:T46.zero=some (.agg (Array.replicate 64 (.bool false))):=eqk (by kernel_rfl)
theorem z46c:(Value.agg (Array.replicate 64 (.bool false))).cells.toList.map constAV0=seenB []:=by kernel_rfl
theorem alloc46{own:List Obj}{K:AV->List Obj->List Nat->Prop}:allocw Try.prog 46 own K=K (.ptr own.length 0 0) (own++[.box (seenB [])]) []:=by
 unfold allocw
 rw[ty46]
 simp only[T46_arr,z46]
 rw[eq_true (show ((Value.agg (Array.replicate 64 (.bool false))).cells.toList.all (·.oneCell'))=true by kernel_rfl),true_and]
 unfold newVarW varObj
 rw[if_neg (show ¬bldZ (Value.agg (Array.replicate 64 (.bool false)))=true by rw[show bldZ (Value.agg (Array.replicate 64 (.bool false)))=false by kernel_rfl];decide),z46c]
attribute [go_sem ↓ high] alloc46
theorem bin_rem8{P:Program}{t:TypeId}{a b:Int}{K:AV->Prop}:binTop P .rem t (.dat (.int .u8 a)) (.dat (.int .u8 b)) K=(b≠0/\inR .u8 (a.tmod b)/\K (.dat (.int .u8 (a.tmod b)))):=by simp[binTop,eqOk,eqTy,binw,intw,fitw,isSigned]
noncomputable abbrev pgO (l:List FR):Obj:=.row (some 3) ((pgs l).map Elm.d)
theorem pgs_snoc(acc:List FR)(x:FR):pgs (acc++[x])=pgs acc++if x.d then [pgE x] else []:=by
 unfold pgs
 rw[List.filter_append,List.map_append,List.filter_cons]
 cases x.d <;> rfl
def dfR(ds:List D)(v:AV)(ob:List Obj):Prop:=∃l:List SK,l.length<=1000000/\(∀x∈l,x.ok)/\ds=[.sl (some 4) (l.map skD)]/\v=.tup [.sl 1 0 (frs l).length,.sl 2 0 (pgs (frs l)).length]/\ob=[.dead,frO (frs l),pgO (frs l)]
theorem seenB_under(n:Nat)(acc:List FR):AV.unders n (seenB acc):=by
 unfold seenB
 have:∀(l:List Nat),AV.unders n (l.map fun j=>AV.dat (.bool (frHas acc ((j / 16:Nat):Int) ((j % 16:Nat):Int)))):=fun l=>by
  induction l with
  | nil=>simp only[List.map_nil,AV.unders]
  | cons a r ih=>simp only[List.map_cons,AV.unders,AV.under,true_and];exact ih
 exact this _
@[go_sem] theorem seenB_kills (o:Nat) (acc:List FR):AV.kills o (seenB acc)=seenB acc:=by
 unfold seenB
 have:∀(l:List Nat),AV.kills o (l.map fun j=>AV.dat (.bool (frHas acc ((j / 16:Nat):Int) ((j % 16:Nat):Int))))=l.map fun j=>AV.dat (.bool (frHas acc ((j / 16:Nat):Int) ((j % 16:Nat):Int))):=fun l=>by
  induction l with
  | nil=>rfl
  | cons a r ih=>simp only[List.map_cons,AV.kills,AV.kill];rw[ih]
 exact this _
theorem nth_skD{l:List SK}{i:Nat}(h:i<l.length):D.nth (l.map skD) i=skD l[i]:=by
 show (l.map skD).getD i default=_
 rw[List.getD_eq_getElem?_getD,List.getElem?_map,List.getElem?_eq_getElem h]
 rfl
theorem dirtyFrames_ok:OkF Try.prog 6 (madeC dfR):=by
 refine okF_made Try.func6 rfl (by decide) ?_
 rintro ds v ob ⟨l,hl,hok,rfl,rfl,rfl⟩
 refine sem_of_awpK [4] (Γ:=tbl []) okG_nil _ _ _ ?_
 have hll:(l.map skD).length=l.length:=List.length_map _
 simp only[go_sem,Try.ntmps6]
 refine sem_le (le_addnil 4 (some 16) rfl (Nat.zero_le _)) ?_
 refine sem_le (le_addnil 5 (some 3) rfl (Nat.zero_le _)) ?_
 refine sem_of_awp (Γ:=tbl []) okG_nil _ _ _ ?_
 simp only[go_sem,hll]
 refine sem_loop (fun k:Nat=>⟨slotsOf 61 [(0,.dat (.sl (some 4) (l.map skD))),(4,.sl 1 0 (frs (l.take k)).length),(5,.sl 2 0 (pgs (frs (l.take k))).length),(6,.ptr 0 0 0),(11,.dat (.sl (some 4) (l.map skD))),(12,.dat (.int .i64 l.length)),(13,.dat (.int .i64 k))],
  [.box (seenB (frs (l.take k))),frO (frs (l.take k)),pgO (frs (l.take k))],0,[]⟩)
  (fun k=>k<=l.length) (fun k=>l.length - k) 0 (Nat.zero_le _) ?_ ?_
 ·have f0:frs []=[]:=rfl
  have p0:pgs []=[]:=rfl
  simp only[List.take_zero,f0,p0]
  exact le_slots' (by simp only[go_sem,Int.natCast_zero,List.length_nil])
 intro k hk
 refine sem_of_awpK [7,10] (Γ:=tbl []) okG_nil _ _ _ ?_
 rcases Nat.lt_or_ge k l.length with hlt|hge
 ·have k1:(k:Int)<l.length:=by omega
  have k2:(0:Int)<=k:=by omega
  have hnx:=nth_skD hlt
  have hfs:=frs_take hlt
  have hxo:=hok _ (List.getElem_mem hlt)
  have hinv:=frs_inv (l.take k) fun y hy=>hok y (List.mem_of_mem_take hy)
  have hinv2:=frs_inv (l.take (k+1)) fun y hy=>hok y (List.mem_of_mem_take hy)
  have hlen:(frs (l.take k)).length<=1000000:=by have:=hinv.1;rw[List.length_take]at this;omega
  have hplen:(pgs (frs (l.take k))).length<=1000000:=by
   rw[pgs_len];exact Nat.le_trans (List.length_filter_le _ _) hlen
  generalize l[k]=x at *
  rw[hfs]at hinv2
  generalize frs (l.take k)=acc at *
  obtain⟨f,i,s,c⟩:=x
  obtain⟨o1,o2,o3,o4,o5,o6⟩:=hxo
  simp only at o1 o2 o3 o4 o5 o6
  have t1:f.tmod 4=f % 4:=Int.tmod_eq_emod_of_nonneg o1
  have t2:i.tmod 16=i % 16:=Int.tmod_eq_emod_of_nonneg o3
  obtain⟨a,ha,ha4⟩:∃a:Nat,f % 4=a/\a<4:=⟨(f % 4).toNat,by omega,by omega⟩
  obtain⟨b,hb,hb4⟩:∃b:Nat,i % 16=b/\b<16:=⟨(i % 16).toNat,by omega,by omega⟩
  simp only[go_sem,k1,k2,hll,hnx,Int.toNat_natCast,decide_true,skD]
  refine sem_drawX [] [] (pf:=[]) (mf:=[]) mixed okG_nil pureNo noMk (ones [0,1,2,3,4,5,6,7,8,9]) (by kernel_rfl) ?_
  have hsl:=seenB_len acc
  have hsg:=seenB_get (acc:=acc) ha4 hb4
  have hx1:(skF ⟨f,i,s,c⟩).f=a:=ha
  have hx2:(skF ⟨f,i,s,c⟩).i=b:=hb
  have hst:=seenB_set (acc:=acc) ha4 hb4 hx1 hx2
  have hfr:frD (skF ⟨f,i,s,c⟩)=.agg [.int .i64 4,.int .i64 0,.int .i64 0,.int .i64 0,.int .i64 a,.int .i64 b,.int .i64 0,.int .i64 0,.int .i64 0,.int .i64 s,.bool (!c),.bool false,.bool false,.int .i64 0,.sl none [],.sl none []]:=by
   rw[← ha,← hb];rfl
  have hpe:(pgE (skF ⟨f,i,s,c⟩)).d=.agg [.int .i64 a,.int .i64 b,.int .i64 s]:=by
   rw[pgE_d (skF_ok ⟨o1,o2,o3,o4,o5,o6⟩),hx1,hx2];rfl
  have q1:inR .u8 (a:Int):=inR_u8.2 (by omega)
  have q2:inR .i64 (a:Int):=inR_i64.2 (by omega)
  have q3:inR .u8 (b:Int):=inR_u8.2 (by omega)
  have q4:inR .i64 (b:Int):=inR_i64.2 (by omega)
  have q5:(a:Int)<4:=by omega
  have q6:(b:Int)<16:=by omega
  have q7:a*16+b<64:=by omega
  have q8:inR .i64 s:=inR_i64.2 (by omega)
  simp only[go_sem,t1,t2,ha,hb,bin_rem8,q1,q2,q3,q4,q5,q6,hsl,q7,hsg]
  have hfs':frStep acc ⟨f,i,s,c⟩=if frHas acc a b then acc else acc++[skF ⟨f,i,s,c⟩]:=by unfold frStep;simp only[ha,hb]
  cases hh:frHas acc a b with
  | true =>
   rw[hh,if_pos rfl]at hfs'
   rw[hfs']at hfs
   simp only[go_sem]
   refine⟨inR_i64.2 (by omega),k+1,by omega,by omega,?_⟩
   rw[hfs]
   refine le_end (own:=[_,_,_]) (ex:=[_]) (Nat.zero_le _) ?_ ?_ ?_
   ·simp only[go_sem,Int.natCast_add,Int.cast_ofNat_Int]
   ·simp only[go_sem]
   ·simp only[go_sem,Obj.under,AV.unders,AV.under,seenB_under]
  | false =>
   rw[hh,if_neg (by decide)]at hfs'
   rw[hfs']at hfs
   have r1:(acc.map frD).length=acc.length:=List.length_map _
   have r2:List.take acc.length (acc.map frD)=acc.map frD:=List.take_of_length_le (by rw[r1];exact Nat.le_refl _)
   have r3:acc.map frD++[frD (skF ⟨f,i,s,c⟩)]=(acc++[skF ⟨f,i,s,c⟩]).map frD:=by rw[List.map_append];rfl
   have r4:acc.length+1=(acc++[skF ⟨f,i,s,c⟩]).length:=by rw[List.length_append];rfl
   rw[hfr]at r3
   have s1:((pgs acc).map Elm.d).length=(pgs acc).length:=List.length_map _
   have s2:List.take (pgs acc).length ((pgs acc).map Elm.d)=(pgs acc).map Elm.d:=List.take_of_length_le (by rw[s1];exact Nat.le_refl _)
   have hpg:=pgs_snoc acc (skF ⟨f,i,s,c⟩)
   generalize hA2:acc++[skF ⟨f,i,s,c⟩]=acc2 at *
   simp only[go_sem,hsl,q7,q5,q6,hst]
   refine⟨by omega,?_⟩
   refine sem_cut 10 okG_nil ?_
   simp only[go_sem,q8]
   refine⟨_,le_normAt 43 rfl,?_⟩
   simp only[go_sem,AV.norm,r1,r2,r3,r4]
   refine⟨⟨_,rfl,rfl⟩,fun d hd=>by (rw[List.mem_singleton]at hd;subst hd;exact⟨rfl,rfl⟩),by omega,by omega,?_⟩
   cases c with
   | true =>
    have hpg':pgs acc2=pgs acc:=by rw[hpg];exact List.append_nil _
    simp only[go_sem,Bool.not_true]
    refine⟨inR_i64.2 (by omega),k+1,by omega,by omega,?_⟩
    have ho:pgO acc2=pgO acc:=by unfold pgO;rw[hpg']
    rw[hfs,hpg',ho]
    refine le_end (own:=[_,_,_]) (ex:=[_,_]) (Nat.zero_le _) ?_ ?_ ?_
    ·simp only[go_sem,Int.natCast_add,Int.cast_ofNat_Int]
    ·simp only[go_sem]
    ·simp only[go_sem,Obj.under,AV.unders,AV.under,seenB_under]
   | false =>
    have hpg':pgs acc2=pgs acc++[pgE (skF ⟨f,i,s,false⟩)]:=hpg
    have s3:(pgs acc).map Elm.d++[.agg [.int .i64 a,.int .i64 b,.int .i64 s]]=(pgs acc2).map Elm.d:=by rw[hpg',List.map_append,List.map_singleton,hpe]
    have s4:(pgs acc).length+1=(pgs acc2).length:=by rw[hpg',List.length_append];rfl
    simp only[go_sem,Bool.not_false,q8,s1,s2,s3,s4]
    refine⟨by omega,by omega,inR_i64.2 (by omega),k+1,by omega,by omega,?_⟩
    rw[hfs]
    refine le_end (own:=[_,_,_]) (ex:=[_,_,_]) (Nat.zero_le _) ?_ ?_ ?_
    ·simp only[go_sem,Int.natCast_add,Int.cast_ofNat_Int]
    ·simp only[go_sem]
    ·simp only[go_sem,Obj.under,AV.unders,AV.under,seenB_under]
 ·obtain rfl:k=l.length:=by omega
  have k1:¬(l.length:Int)<l.length:=by omega
  simp only[go_sem,k1,List.take_length,decide_false]
  refine post_resO (.inl rfl) [.tmp 2,.tmp 3] rfl (fun _ h=>h) ?_
  simp only[go_sem]
  exact le_dead 0
end Go.AM
namespace Go.AM
open Go Go.Proofs Go.Sort
def cmp3(a b:Int):Int:=if a<b then -1 else if b<a then 1 else 0
def nanR(ds:List D)(v:AV):Prop:=∃a:Int,ds=[.int .i64 a]/\v=.dat (.bool false)
theorem isNaN_ok:OkF Try.prog 30 (dataC nanR):=by
 refine okF_data Try.func30 rfl (by decide) ?_
 rintro ds v ⟨a,rfl,rfl⟩
 refine sem_of_awp (Γ:=tbl []) okG_nil _ _ _ ?_
 simp only[go_sem,Try.ntmps30,eq_self,decide_true]
 exact post_data (.inl rfl) [2] rfl trivial rfl
def cmpR3(ds:List D)(v:AV):Prop:=∃a b:Int,ds=[.int .i64 a,.int .i64 b]/\v=.dat (.int .i64 (cmp3 a b))
abbrev tabNaN:List (Nat×Contract):=[(30,dataC nanR)]
theorem tabNaN_ok:OkG Try.prog (tbl tabNaN):=okG_cons isNaN_ok okG_nil
theorem compare_ok:OkF Try.prog 21 (dataC cmpR3):=by
 refine okF_data Try.func21 rfl (by decide) ?_
 rintro ds v ⟨a,b,rfl,rfl⟩
 refine sem_of_awp (Γ:=tbl tabNaN) tabNaN_ok _ _ _ ?_
 simp only[go_sem,Try.ntmps21]
 refine call_data nanR (by simp) _ _ rfl ⟨a,rfl,rfl⟩ (.inl rfl) ?_
 simp only[go_sem]
 refine call_data nanR (by simp) _ _ rfl ⟨b,rfl,rfl⟩ (.inl rfl) ?_
 by_cases h1:a<b
 ·have:cmp3 a b=-1:=by unfold cmp3;rw[if_pos h1]
  simp only[go_sem,h1,decide_true,this]
  exact post_data (.inl rfl) [4] rfl trivial rfl
 by_cases h2:b<a
 ·have:cmp3 a b=1:=by unfold cmp3;rw[if_neg h1,if_pos h2]
  simp only[go_sem,h1,h2,decide_true,decide_false,this]
  exact post_data (.inl rfl) [4] rfl trivial rfl
 ·have:cmp3 a b=0:=by unfold cmp3;rw[if_neg h1,if_neg h2]
  simp only[go_sem,h1,h2,decide_true,decide_false,this]
  exact post_data (.inl rfl) [4] rfl trivial rfl
def orV:List Int->Int
 | []=>0
 | a :: r=>if a=0 then orV r else a
def orR(ds:List D)(v:AV):Prop:=∃l:List Int,l.length<=1000/\ds=[.sl none (l.map (D.int .i64))]/\v=.dat (.int .i64 (orV l))
theorem or_ok:OkF Try.prog 20 (dataC orR):=by
 refine okF_data Try.func20 rfl (by decide) ?_
 rintro ds v ⟨l,hl,rfl,rfl⟩
 generalize hV:orV l=V
 have hll:(l.map (D.int .i64)).length=l.length:=List.length_map _
 refine sem_of_awp (Γ:=tbl []) okG_nil _ _ _ ?_
 simp only[go_sem,Try.ntmps20,hll]
 refine sem_loop (fun k:Nat=>⟨slotsOf 18 [(0,.dat (.sl none (l.map (D.int .i64)))),(2,.dat (.int .i64 0)),(3,.dat (.int .i64 0)),(6,.dat (.sl none (l.map (D.int .i64)))),(7,.dat (.int .i64 l.length)),(8,.dat (.int .i64 k))],
  [],0,[]⟩) (fun k=>k<=l.length/\orV (l.drop k)=V) (fun k=>l.length - k) 0 ⟨Nat.zero_le _,hV⟩ ?_ ?_
 ·exact le_slots' (by simp only[go_sem,Int.natCast_zero])
 rintro k ⟨hk,hI⟩
 refine sem_of_awp (Γ:=tbl []) okG_nil _ _ _ ?_
 cases hd:l.drop k with
 | nil =>
  have:=end_of_drop hd hk
  have hk2:¬(k:Int)<l.length:=by omega
  rw[hd]at hI
  have hI0:V=0:=hI.symm
  simp only[go_sem,hk2,hll,hI0]
  exact post_data (.inl rfl) [2] rfl trivial rfl
 | cons c q =>
  have hlt:=lt_of_drop hd
  have hk2:(k:Int)<l.length:=by omega
  have hk0:(0:Int)<=k:=Int.natCast_nonneg k
  have hn:=nth_of_drop (f:=D.int .i64) hd
  rw[hd,orV]at hI
  by_cases he:c=0
  ·rw[if_pos he]at hI
   simp only[go_sem,hk2,hk0,hll,hn,he,eq_self,decide_true]
   refine⟨inR_i64.2 (by omega),k+1,⟨by omega,by rw[drop_cons hd];exact hI⟩,by omega,?_⟩
   exact le_slots' (by simp only[go_sem,Int.natCast_add,Int.cast_ofNat_Int])
  ·rw[if_neg he]at hI
   subst hI
   simp only[go_sem,hk2,hk0,hll,hn,he,decide_false]
   exact post_data (.inl rfl) [2] rfl trivial rfl
theorem orV_cons(a b:Int)(r:List Int):orV (cmp3 a b :: r)=if a<b then -1 else if b<a then 1 else orV r:=by
 show (if cmp3 a b=0 then orV r else cmp3 a b)=_
 unfold cmp3
 by_cases h1:a<b
 ·rw[if_pos h1,if_pos h1,if_neg (by decide)]
 by_cases h2:b<a
 ·rw[if_neg h1,if_neg h1,if_pos h2,if_pos h2,if_neg (by decide)]
 ·rw[if_neg h1,if_neg h1,if_neg h2,if_neg h2,if_pos rfl]
theorem orV_lex(x y:Elm 3):orV [cmp3 (x.1.getD 2 0) (y.1.getD 2 0),cmp3 (x.1.getD 0 0) (y.1.getD 0 0),cmp3 (x.1.getD 1 0) (y.1.getD 1 0)]=lexE 3 [2,0,1] x y:=by
 rw[orV_cons,orV_cons,orV_cons]
 rfl
end Go.AM

