/- Own work over the model of the kit. -/
import Derived.Test.YtjfoclncfhiffaaProg
import Derived.Test.YtjfoclncfhiffaaD4
import Derived.Test.YtjfoclncfhiffaaD1
set_option linter.unnecessarySimpa false
set_option linter.unusedSectionVars false
set_option linter.unusedSimpArgs false
set_option linter.unusedVariables false
namespace Go.AM
private theorem eqk {α:Sort _} {a b:α} (h:a=b):a=b:=Eq.trans h (Eq.refl _)
open Go Go.Proofs
noncomputable def T2:Ty:=(tyOf Try.prog 2).getD ⟨false,0,0,none,.bool⟩
@[go_sem] theorem ty2:tyOf Try.prog 2=some T2:=eqk (by kernel_rfl)
@[go_sem] theorem T2_agg:T2.agg=false:=eqk (by kernel_rfl)
@[go_sem] theorem T2_size:T2.size=1:=eqk (by kernel_rfl)
@[go_sem] theorem T2_bytes:T2.bytes=8:=eqk (by kernel_rfl)
@[go_sem] theorem T2_want:T2.want=none:=eqk (by kernel_rfl)
@[go_sem] theorem T2_desc:T2.desc=.int .i64:=eqk (by kernel_rfl)
@[go_sem] theorem T2_arr:T2.arr=none:=eqk (by kernel_rfl)
@[go_sem] theorem T2_zero:T2.zero=some (.int .i64 0):=eqk (by kernel_rfl)
@[go_sem] theorem T2_zeroD:zeroD T2=some (.int .i64 0):=eqk (by kernel_rfl)
@[go_sem] theorem T2_zeroElem:zeroElem T2=some (.int .i64 0):=eqk (by kernel_rfl)
@[go_sem ↓] theorem T2_zs:(∃z,T2.zero=some z/\z.cells.size=T2.size)=True:=by
 refine eq_true ⟨_,T2_zero,?_⟩
 kernel_rfl
noncomputable def T3:Ty:=(tyOf Try.prog 3).getD ⟨false,0,0,none,.bool⟩
@[go_sem] theorem ty3:tyOf Try.prog 3=some T3:=eqk (by kernel_rfl)
@[go_sem] theorem T3_agg:T3.agg=false:=eqk (by kernel_rfl)
@[go_sem] theorem T3_size:T3.size=1:=eqk (by kernel_rfl)
@[go_sem] theorem T3_bytes:T3.bytes=8:=eqk (by kernel_rfl)
@[go_sem] theorem T3_want:T3.want=none:=eqk (by kernel_rfl)
@[go_sem] theorem T3_desc:T3.desc=.int .i64:=eqk (by kernel_rfl)
@[go_sem] theorem T3_arr:T3.arr=none:=eqk (by kernel_rfl)
@[go_sem] theorem T3_zero:T3.zero=some (.int .i64 0):=eqk (by kernel_rfl)
@[go_sem] theorem T3_zeroD:zeroD T3=some (.int .i64 0):=eqk (by kernel_rfl)
@[go_sem] theorem T3_zeroElem:zeroElem T3=some (.int .i64 0):=eqk (by kernel_rfl)
@[go_sem ↓] theorem T3_zs:(∃z,T3.zero=some z/\z.cells.size=T3.size)=True:=by
 refine eq_true ⟨_,T3_zero,?_⟩
 kernel_rfl
noncomputable def T4:Ty:=(tyOf Try.prog 4).getD ⟨false,0,0,none,.bool⟩
@[go_sem] theorem ty4:tyOf Try.prog 4=some T4:=eqk (by kernel_rfl)
@[go_sem] theorem T4_agg:T4.agg=false:=eqk (by kernel_rfl)
@[go_sem] theorem T4_size:T4.size=1:=eqk (by kernel_rfl)
@[go_sem] theorem T4_bytes:T4.bytes=1:=eqk (by kernel_rfl)
@[go_sem] theorem T4_want:T4.want=none:=eqk (by kernel_rfl)
@[go_sem] theorem T4_desc:T4.desc=.bool:=eqk (by kernel_rfl)
@[go_sem] theorem T4_arr:T4.arr=none:=eqk (by kernel_rfl)
@[go_sem] theorem T4_zero:T4.zero=some (.bool false):=eqk (by kernel_rfl)
@[go_sem] theorem T4_zeroD:zeroD T4=some (.bool false):=eqk (by kernel_rfl)
@[go_sem] theorem T4_zeroElem:zeroElem T4=some (.bool false):=eqk (by kernel_rfl)
@[go_sem ↓] theorem T4_zs:(∃z,T4.zero=some z/\z.cells.size=T4.size)=True:=by
 refine eq_true ⟨_,T4_zero,?_⟩
 kernel_rfl
noncomputable def T5:Ty:=(tyOf Try.prog 5).getD ⟨false,0,0,none,.bool⟩
@[go_sem] theorem ty5:tyOf Try.prog 5=some T5:=eqk (by kernel_rfl)
@[go_sem] theorem T5_agg:T5.agg=false:=eqk (by kernel_rfl)
@[go_sem] theorem T5_size:T5.size=1:=eqk (by kernel_rfl)
@[go_sem] theorem T5_bytes:T5.bytes=1:=eqk (by kernel_rfl)
@[go_sem] theorem T5_want:T5.want=none:=eqk (by kernel_rfl)
@[go_sem] theorem T5_desc:T5.desc=.int .u8:=eqk (by kernel_rfl)
@[go_sem] theorem T5_arr:T5.arr=none:=eqk (by kernel_rfl)
@[go_sem] theorem T5_zero:T5.zero=some (.int .u8 0):=eqk (by kernel_rfl)
@[go_sem] theorem T5_zeroD:zeroD T5=some (.int .u8 0):=eqk (by kernel_rfl)
@[go_sem] theorem T5_zeroElem:zeroElem T5=some (.int .u8 0):=eqk (by kernel_rfl)
@[go_sem ↓] theorem T5_zs:(∃z,T5.zero=some z/\z.cells.size=T5.size)=True:=by
 refine eq_true ⟨_,T5_zero,?_⟩
 kernel_rfl
noncomputable def T9:Ty:=(tyOf Try.prog 9).getD ⟨false,0,0,none,.bool⟩
@[go_sem] theorem ty9:tyOf Try.prog 9=some T9:=eqk (by kernel_rfl)
@[go_sem] theorem T9_agg:T9.agg=false:=eqk (by kernel_rfl)
@[go_sem] theorem T9_size:T9.size=1:=eqk (by kernel_rfl)
@[go_sem] theorem T9_bytes:T9.bytes=16:=eqk (by kernel_rfl)
@[go_sem] theorem T9_want:T9.want=none:=eqk (by kernel_rfl)
@[go_sem] theorem T9_desc:T9.desc=.string:=eqk (by kernel_rfl)
@[go_sem] theorem T9_arr:T9.arr=none:=eqk (by kernel_rfl)
@[go_sem] theorem T9_zero:T9.zero=some (.string ⟨#[]⟩):=eqk (by kernel_rfl)
@[go_sem] theorem T9_zeroD:zeroD T9=some (.str []):=eqk (by kernel_rfl)
@[go_sem] theorem T9_zeroElem:zeroElem T9=some (.str []):=eqk (by kernel_rfl)
@[go_sem ↓] theorem T9_zs:(∃z,T9.zero=some z/\z.cells.size=T9.size)=True:=by
 refine eq_true ⟨_,T9_zero,?_⟩
 kernel_rfl
noncomputable def T21:Ty:=(tyOf Try.prog 21).getD ⟨false,0,0,none,.bool⟩
@[go_sem] theorem ty21:tyOf Try.prog 21=some T21:=eqk (by kernel_rfl)
@[go_sem] theorem T21_agg:T21.agg=false:=eqk (by kernel_rfl)
@[go_sem] theorem T21_size:T21.size=1:=eqk (by kernel_rfl)
@[go_sem] theorem T21_bytes:T21.bytes=4:=eqk (by kernel_rfl)
@[go_sem] theorem T21_want:T21.want=none:=eqk (by kernel_rfl)
@[go_sem] theorem T21_desc:T21.desc=.int .i32:=eqk (by kernel_rfl)
@[go_sem] theorem T21_arr:T21.arr=none:=eqk (by kernel_rfl)
@[go_sem] theorem T21_zero:T21.zero=some (.int .i32 0):=eqk (by kernel_rfl)
@[go_sem] theorem T21_zeroD:zeroD T21=some (.int .i32 0):=eqk (by kernel_rfl)
@[go_sem] theorem T21_zeroElem:zeroElem T21=some (.int .i32 0):=eqk (by kernel_rfl)
@[go_sem ↓] theorem T21_zs:(∃z,T21.zero=some z/\z.cells.size=T21.size)=True:=by
 refine eq_true ⟨_,T21_zero,?_⟩
 kernel_rfl
noncomputable def T22:Ty:=(tyOf Try.prog 22).getD ⟨false,0,0,none,.bool⟩
@[go_sem] theorem ty22:tyOf Try.prog 22=some T22:=eqk (by kernel_rfl)
@[go_sem] theorem T22_agg:T22.agg=false:=eqk (by kernel_rfl)
@[go_sem] theorem T22_size:T22.size=1:=eqk (by kernel_rfl)
@[go_sem] theorem T22_bytes:T22.bytes=24:=eqk (by kernel_rfl)
@[go_sem] theorem T22_want:T22.want=none:=eqk (by kernel_rfl)
@[go_sem] theorem T22_desc:T22.desc=.slice 5:=eqk (by kernel_rfl)
@[go_sem] theorem T22_arr:T22.arr=none:=eqk (by kernel_rfl)
@[go_sem] theorem T22_zero:T22.zero=some (.slice none 0 0):=eqk (by kernel_rfl)
@[go_sem] theorem T22_zeroD:zeroD T22=some (.sl none []):=eqk (by kernel_rfl)
@[go_sem] theorem T22_zeroElem:zeroElem T22=some (.sl none []):=eqk (by kernel_rfl)
@[go_sem ↓] theorem T22_zs:(∃z,T22.zero=some z/\z.cells.size=T22.size)=True:=by
 refine eq_true ⟨_,T22_zero,?_⟩
 kernel_rfl
noncomputable def T24:Ty:=(tyOf Try.prog 24).getD ⟨false,0,0,none,.bool⟩
@[go_sem] theorem ty24:tyOf Try.prog 24=some T24:=eqk (by kernel_rfl)
@[go_sem] theorem T24_agg:T24.agg=false:=eqk (by kernel_rfl)
@[go_sem] theorem T24_size:T24.size=1:=eqk (by kernel_rfl)
@[go_sem] theorem T24_bytes:T24.bytes=24:=eqk (by kernel_rfl)
@[go_sem] theorem T24_want:T24.want=none:=eqk (by kernel_rfl)
@[go_sem] theorem T24_desc:T24.desc=.slice 3:=eqk (by kernel_rfl)
@[go_sem] theorem T24_arr:T24.arr=none:=eqk (by kernel_rfl)
@[go_sem] theorem T24_zero:T24.zero=some (.slice none 0 0):=eqk (by kernel_rfl)
@[go_sem] theorem T24_zeroD:zeroD T24=some (.sl none []):=eqk (by kernel_rfl)
@[go_sem] theorem T24_zeroElem:zeroElem T24=some (.sl none []):=eqk (by kernel_rfl)
@[go_sem ↓] theorem T24_zs:(∃z,T24.zero=some z/\z.cells.size=T24.size)=True:=by
 refine eq_true ⟨_,T24_zero,?_⟩
 kernel_rfl
noncomputable def T26:Ty:=(tyOf Try.prog 26).getD ⟨false,0,0,none,.bool⟩
@[go_sem] theorem ty26:tyOf Try.prog 26=some T26:=eqk (by kernel_rfl)
@[go_sem] theorem T26_agg:T26.agg=false:=eqk (by kernel_rfl)
@[go_sem] theorem T26_size:T26.size=1:=eqk (by kernel_rfl)
@[go_sem] theorem T26_bytes:T26.bytes=24:=eqk (by kernel_rfl)
@[go_sem] theorem T26_want:T26.want=none:=eqk (by kernel_rfl)
@[go_sem] theorem T26_desc:T26.desc=.slice 46:=eqk (by kernel_rfl)
@[go_sem] theorem T26_arr:T26.arr=none:=eqk (by kernel_rfl)
@[go_sem] theorem T26_zero:T26.zero=some (.slice none 0 0):=eqk (by kernel_rfl)
@[go_sem] theorem T26_zeroD:zeroD T26=some (.sl none []):=eqk (by kernel_rfl)
@[go_sem] theorem T26_zeroElem:zeroElem T26=some (.sl none []):=eqk (by kernel_rfl)
@[go_sem ↓] theorem T26_zs:(∃z,T26.zero=some z/\z.cells.size=T26.size)=True:=by
 refine eq_true ⟨_,T26_zero,?_⟩
 kernel_rfl
noncomputable def T31:Ty:=(tyOf Try.prog 31).getD ⟨false,0,0,none,.bool⟩
@[go_sem] theorem ty31:tyOf Try.prog 31=some T31:=eqk (by kernel_rfl)
@[go_sem] theorem T31_agg:T31.agg=true:=eqk (by kernel_rfl)
@[go_sem] theorem T31_size:T31.size=5:=eqk (by kernel_rfl)
@[go_sem] theorem T31_bytes:T31.bytes=120:=eqk (by kernel_rfl)
@[go_sem] theorem T31_want:T31.want=some 5:=eqk (by kernel_rfl)
@[go_sem] theorem T31_desc:T31.desc=.array 5 24:=eqk (by kernel_rfl)
@[go_sem] theorem T31_arr:T31.arr=some (5,24):=eqk (by kernel_rfl)
@[go_sem] theorem T31_places:placesOf Try.prog T31=some [(0,1),(1,1),(2,1),(3,1),(4,1)]:=eqk (by kernel_rfl)
@[go_sem] theorem T31_zero:T31.zero=some (.agg #[.slice none 0 0,.slice none 0 0,.slice none 0 0,.slice none 0 0,.slice none 0 0]):=eqk (by kernel_rfl)
@[go_sem] theorem T31_zeroElem:zeroElem T31=some (.agg [.sl none [],.sl none [],.sl none [],.sl none [],.sl none []]):=eqk (by kernel_rfl)
@[go_sem ↓] theorem T31_zs:(∃z,T31.zero=some z/\z.cells.size=T31.size)=True:=by
 refine eq_true ⟨_,T31_zero,?_⟩
 kernel_rfl
noncomputable def T33:Ty:=(tyOf Try.prog 33).getD ⟨false,0,0,none,.bool⟩
@[go_sem] theorem ty33:tyOf Try.prog 33=some T33:=eqk (by kernel_rfl)
@[go_sem] theorem T33_agg:T33.agg=true:=eqk (by kernel_rfl)
@[go_sem] theorem T33_size:T33.size=10:=eqk (by kernel_rfl)
@[go_sem] theorem T33_bytes:T33.bytes=160:=eqk (by kernel_rfl)
@[go_sem] theorem T33_want:T33.want=some 10:=eqk (by kernel_rfl)
@[go_sem] theorem T33_arr:T33.arr=none:=eqk (by kernel_rfl)
@[go_sem] theorem T33_places:placesOf Try.prog T33=some [(0,1),(1,1),(2,1),(3,1),(4,1),(5,5)]:=eqk (by kernel_rfl)
@[go_sem] theorem T33_f0:fieldOf Try.prog (some T33) 0=some (0,T3):=eqk (by kernel_rfl)
@[go_sem] theorem T33_f1:fieldOf Try.prog (some T33) 1=some (1,T3):=eqk (by kernel_rfl)
@[go_sem] theorem T33_f2:fieldOf Try.prog (some T33) 2=some (2,T3):=eqk (by kernel_rfl)
@[go_sem] theorem T33_f3:fieldOf Try.prog (some T33) 3=some (3,T3):=eqk (by kernel_rfl)
@[go_sem] theorem T33_f4:fieldOf Try.prog (some T33) 4=some (4,T3):=eqk (by kernel_rfl)
@[go_sem] theorem T33_f5:fieldOf Try.prog (some T33) 5=some (5,T31):=eqk (by kernel_rfl)
@[go_sem] theorem T33_zero:T33.zero=some (.agg #[.int .i64 0,.int .i64 0,.int .i64 0,.int .i64 0,.int .i64 0,.slice none 0 0,.slice none 0 0,.slice none 0 0,.slice none 0 0,.slice none 0 0]):=eqk (by kernel_rfl)
@[go_sem] theorem T33_zeroElem:zeroElem T33=some (.agg [.int .i64 0,.int .i64 0,.int .i64 0,.int .i64 0,.int .i64 0,.sl none [],.sl none [],.sl none [],.sl none [],.sl none []]):=eqk (by kernel_rfl)
@[go_sem ↓] theorem T33_zs:(∃z,T33.zero=some z/\z.cells.size=T33.size)=True:=by
 refine eq_true ⟨_,T33_zero,?_⟩
 kernel_rfl
noncomputable def T46:Ty:=(tyOf Try.prog 46).getD ⟨false,0,0,none,.bool⟩
@[go_sem] theorem ty46:tyOf Try.prog 46=some T46:=eqk (by kernel_rfl)
@[go_sem] theorem T46_agg:T46.agg=true:=eqk (by kernel_rfl)
@[go_sem] theorem T46_size:T46.size=2:=eqk (by kernel_rfl)
@[go_sem] theorem T46_bytes:T46.bytes=16:=eqk (by kernel_rfl)
@[go_sem] theorem T46_want:T46.want=some 2:=eqk (by kernel_rfl)
@[go_sem] theorem T46_arr:T46.arr=none:=eqk (by kernel_rfl)
@[go_sem] theorem T46_places:placesOf Try.prog T46=some [(0,1),(1,1)]:=eqk (by kernel_rfl)
@[go_sem] theorem T46_f0:fieldOf Try.prog (some T46) 0=some (0,T3):=eqk (by kernel_rfl)
@[go_sem] theorem T46_f1:fieldOf Try.prog (some T46) 1=some (1,T3):=eqk (by kernel_rfl)
@[go_sem] theorem T46_zero:T46.zero=some (.agg #[.int .i64 0,.int .i64 0]):=eqk (by kernel_rfl)
@[go_sem] theorem T46_zeroElem:zeroElem T46=some (.agg [.int .i64 0,.int .i64 0]):=eqk (by kernel_rfl)
@[go_sem ↓] theorem T46_zs:(∃z,T46.zero=some z/\z.cells.size=T46.size)=True:=by
 refine eq_true ⟨_,T46_zero,?_⟩
 kernel_rfl
noncomputable def T63:Ty:=(tyOf Try.prog 63).getD ⟨false,0,0,none,.bool⟩
@[go_sem] theorem ty63:tyOf Try.prog 63=some T63:=eqk (by kernel_rfl)
@[go_sem] theorem T63_agg:T63.agg=true:=eqk (by kernel_rfl)
@[go_sem] theorem T63_size:T63.size=256:=eqk (by kernel_rfl)
@[go_sem] theorem T63_bytes:T63.bytes=256:=eqk (by kernel_rfl)
@[go_sem] theorem T63_want:T63.want=some 256:=eqk (by kernel_rfl)
@[go_sem] theorem T63_desc:T63.desc=.array 256 4:=eqk (by kernel_rfl)
@[go_sem] theorem T63_arr:T63.arr=some (256,4):=eqk (by kernel_rfl)
@[go_sem] theorem T63_zero:T63.zero=some (.agg (Array.replicate 256 (.bool false))):=eqk (by kernel_rfl)
noncomputable def T67:Ty:=(tyOf Try.prog 67).getD ⟨false,0,0,none,.bool⟩
@[go_sem] theorem ty67:tyOf Try.prog 67=some T67:=eqk (by kernel_rfl)
@[go_sem] theorem T67_agg:T67.agg=false:=eqk (by kernel_rfl)
@[go_sem] theorem T67_size:T67.size=1:=eqk (by kernel_rfl)
@[go_sem] theorem T67_bytes:T67.bytes=24:=eqk (by kernel_rfl)
@[go_sem] theorem T67_want:T67.want=none:=eqk (by kernel_rfl)
@[go_sem] theorem T67_desc:T67.desc=.slice 24:=eqk (by kernel_rfl)
@[go_sem] theorem T67_arr:T67.arr=none:=eqk (by kernel_rfl)
@[go_sem] theorem T67_zero:T67.zero=some (.slice none 0 0):=eqk (by kernel_rfl)
@[go_sem] theorem T67_zeroD:zeroD T67=some (.sl none []):=eqk (by kernel_rfl)
@[go_sem] theorem T67_zeroElem:zeroElem T67=some (.sl none []):=eqk (by kernel_rfl)
@[go_sem ↓] theorem T67_zs:(∃z,T67.zero=some z/\z.cells.size=T67.size)=True:=by
 refine eq_true ⟨_,T67_zero,?_⟩
 kernel_rfl
noncomputable def T81:Ty:=(tyOf Try.prog 81).getD ⟨false,0,0,none,.bool⟩
@[go_sem] theorem ty81:tyOf Try.prog 81=some T81:=eqk (by kernel_rfl)
@[go_sem] theorem T81_agg:T81.agg=false:=eqk (by kernel_rfl)
@[go_sem] theorem T81_size:T81.size=1:=eqk (by kernel_rfl)
@[go_sem] theorem T81_bytes:T81.bytes=4:=eqk (by kernel_rfl)
@[go_sem] theorem T81_want:T81.want=none:=eqk (by kernel_rfl)
@[go_sem] theorem T81_desc:T81.desc=.int .u32:=eqk (by kernel_rfl)
@[go_sem] theorem T81_arr:T81.arr=none:=eqk (by kernel_rfl)
@[go_sem] theorem T81_zero:T81.zero=some (.int .u32 0):=eqk (by kernel_rfl)
@[go_sem] theorem T81_zeroD:zeroD T81=some (.int .u32 0):=eqk (by kernel_rfl)
@[go_sem] theorem T81_zeroElem:zeroElem T81=some (.int .u32 0):=eqk (by kernel_rfl)
@[go_sem ↓] theorem T81_zs:(∃z,T81.zero=some z/\z.cells.size=T81.size)=True:=by
 refine eq_true ⟨_,T81_zero,?_⟩
 kernel_rfl
noncomputable def T83:Ty:=(tyOf Try.prog 83).getD ⟨false,0,0,none,.bool⟩
@[go_sem] theorem ty83:tyOf Try.prog 83=some T83:=eqk (by kernel_rfl)
@[go_sem] theorem T83_agg:T83.agg=false:=eqk (by kernel_rfl)
@[go_sem] theorem T83_size:T83.size=1:=eqk (by kernel_rfl)
@[go_sem] theorem T83_bytes:T83.bytes=8:=eqk (by kernel_rfl)
@[go_sem] theorem T83_want:T83.want=none:=eqk (by kernel_rfl)
@[go_sem] theorem T83_desc:T83.desc=.int .u64:=eqk (by kernel_rfl)
@[go_sem] theorem T83_arr:T83.arr=none:=eqk (by kernel_rfl)
@[go_sem] theorem T83_zero:T83.zero=some (.int .u64 0):=eqk (by kernel_rfl)
@[go_sem] theorem T83_zeroD:zeroD T83=some (.int .u64 0):=eqk (by kernel_rfl)
@[go_sem] theorem T83_zeroElem:zeroElem T83=some (.int .u64 0):=eqk (by kernel_rfl)
@[go_sem ↓] theorem T83_zs:(∃z,T83.zero=some z/\z.cells.size=T83.size)=True:=by
 refine eq_true ⟨_,T83_zero,?_⟩
 kernel_rfl
noncomputable def T96:Ty:=(tyOf Try.prog 96).getD ⟨false,0,0,none,.bool⟩
@[go_sem] theorem ty96:tyOf Try.prog 96=some T96:=eqk (by kernel_rfl)
@[go_sem] theorem T96_agg:T96.agg=true:=eqk (by kernel_rfl)
@[go_sem] theorem T96_size:T96.size=0:=eqk (by kernel_rfl)
@[go_sem] theorem T96_bytes:T96.bytes=0:=eqk (by kernel_rfl)
@[go_sem] theorem T96_want:T96.want=some 0:=eqk (by kernel_rfl)
@[go_sem] theorem T96_desc:T96.desc=.array 0 16:=eqk (by kernel_rfl)
@[go_sem] theorem T96_arr:T96.arr=some (0,16):=eqk (by kernel_rfl)
@[go_sem] theorem T96_zero:T96.zero=some (.agg #[]):=eqk (by kernel_rfl)
@[go_sem] theorem T96_zeroElem:zeroElem T96=some (.agg []):=eqk (by kernel_rfl)
@[go_sem ↓] theorem T96_zs:(∃z,T96.zero=some z/\z.cells.size=T96.size)=True:=by
 refine eq_true ⟨_,T96_zero,?_⟩
 kernel_rfl
end Go.AM
namespace Go.AM
def loF(M:Nat->Bool):Nat->Nat->Nat
 | 0,l=>l
 | t+1,l=>if M l then loF M t (l+1) else l
def hiF(M:Nat->Bool):Nat->Nat
 | 0=>0
 | h+1=>if M h then h+1 else hiF M h
theorem loF_spec(M:Nat->Bool):∀t l,l<=loF M t l/\loF M t l<=l+t/\(∀i,l<=i->i<loF M t l->M i=true)/\(loF M t l<l+t->M (loF M t l)=false)
 | 0,l=>⟨Nat.le_refl _,Nat.le_refl _,fun i h1 h2=>by simp only[loF]at h2;omega,fun h=>by simp only[loF]at h;omega⟩
 | t+1,l=>by
  unfold loF
  cases h:M l with
  | true =>
   rw[if_pos rfl]
   obtain⟨h1,h2,h3,h4⟩:=loF_spec M t (l+1)
   refine⟨by omega,by omega,fun i g1 g2=>?_,fun g=>h4 (by omega)⟩
   rcases Nat.lt_or_ge l i with g|g
   ·exact h3 i g g2
   ·obtain rfl:i=l:=by omega
    exact h
  | false =>
   rw[if_neg (by simp)]
   exact⟨Nat.le_refl _,by omega,fun i g1 g2=>by omega,fun _=>h⟩
theorem hiF_spec(M:Nat->Bool):∀h,hiF M h<=h/\(∀i,hiF M h<=i->i<h->M i=false)/\(0<hiF M h->M (hiF M h - 1)=true)
 | 0=>⟨Nat.le_refl _,fun i _ h=>by omega,fun h=>by simp only[hiF]at h;omega⟩
 | h+1=>by
  unfold hiF
  cases hm:M h with
  | true=>rw[if_pos rfl];exact⟨Nat.le_refl _,fun i h1 h2=>by omega,fun _=>by simpa using hm⟩
  | false =>
   rw[if_neg (by simp)]
   obtain⟨h1,h2,h3⟩:=hiF_spec M h
   refine⟨by omega,fun i g1 g2=>?_,h3⟩
   rcases Nat.lt_or_ge i h with g|g
   ·exact h2 i g1 g
   ·obtain rfl:i=h:=by omega
    exact hm
def planF(M:Nat->Bool)(n:Nat):Nat->Nat->Nat->List (Nat×Nat)
 | 0,_,_=>[]
 | t+1,l,h=>if loF M (n - l) l+1<hiF M h then (hiF M h - 1,loF M (n - l) l) :: planF M n t (loF M (n - l) l+1) (hiF M h - 1) else []
def movF(M:Nat->Bool)(m:Nat×Nat):Nat->Bool:=fun i=>if i=m.1 then false else if i=m.2 then true else M i
theorem movF_other{M:Nat->Bool}{m:Nat×Nat}{i:Nat}(h1:i≠m.1)(h2:i≠m.2):movF M m i=M i:=by unfold movF;rw[if_neg h1,if_neg h2]
def packed(M:Nat->Bool)(n:Nat):Prop:=∃m,m<=n/\(∀i,i<m->M i=true)/\∀i,m<=i->i<n->M i=false
theorem plan_packs{M:Nat->Bool}{n:Nat}:∀t l h (N:Nat->Bool),h<=n->l<=n->l<=h+t->h<=l+t->(l<=h∨l=h+1)->(∀i,l<=i->i<h->N i=M i)->(∀i,i<l->N i=true)->(∀i,h<=i->i<n->¬i<l->N i=false) ->
  packed ((planF M n t l h).foldl movF N) n
 | 0,l,h,N,hn,ln,ht1,ht,hlh,h1,h2,h3=>by
  refine⟨l,ln,h2,fun i g1 g2=>h3 i (by omega) g2 (by omega)⟩
 | t+1,l,h,N,hn,ln,ht1,ht,hlh,h1,h2,h3=>by
  unfold planF
  obtain⟨a1,a2,a3,a4⟩:=loF_spec M (n - l) l
  obtain⟨b1,b2,b3⟩:=hiF_spec M h
  generalize loF M (n - l) l=lo at *
  generalize hiF M h=hi at *
  by_cases hc:lo+1<hi
  ·rw[if_pos hc,List.foldl_cons]
   have hMlo:M lo=false:=a4 (by omega)
   have hMhi:=b3 (by omega)
   refine plan_packs t (lo+1) (hi - 1) _ (by omega) (by omega) (by omega) (by omega) (by omega) ?_ ?_ ?_
   ·intro i g1 g2
    rw[movF_other (by simp only;omega) (by simp only;omega)]
    exact h1 i (by omega) (by omega)
   ·intro i g
    unfold movF
    rw[if_neg (by simp only;omega)]
    split
    ·rfl
    ·rename_i hne
     simp only at hne
     rcases Nat.lt_or_ge i l with g'|g'
     ·exact h2 i g'
     ·rw[h1 i g' (by omega)];exact a3 i g' (by omega)
   ·intro i g1 g2 g3
    unfold movF
    split
    ·rfl
    ·rename_i hne
     simp only at hne
     rw[if_neg (by simp only;omega)]
     rcases Nat.lt_or_ge i h with g'|g'
     ·rw[h1 i (by omega) g'];exact b2 i (by omega) g'
     ·exact h3 i g' g2 (by omega)
  ·rw[if_neg hc]
   refine⟨max l (min lo h),by omega,fun i g=>?_,fun i g1 g2=>?_⟩
   ·rcases Nat.lt_or_ge i l with g'|g'
    ·exact h2 i g'
    ·rw[List.foldl_nil,h1 i g' (by omega)];exact a3 i g' (by omega)
   ·rw[List.foldl_nil]
    rcases Nat.lt_or_ge i h with g'|g'
    ·have hlo:lo<=i:=by omega
     rw[h1 i (by omega) g']
     rcases Nat.lt_or_ge i hi with g''|g''
     ·have:i=lo:=by omega
      subst this
      exact a4 (by omega)
     ·exact b2 i g'' g'
    ·exact h3 i g' g2 (by omega)
end Go.AM
namespace Go.AM
def blk(k f:Nat):Nat:=f / 2 ^ k*2 ^ k
def full(X:Nat->Bool)(k b:Nat):Prop:=∀i,i<2 ^ k->X (b+i)=true
instance (X:Nat->Bool) (k b:Nat):Decidable (full X k b):=by unfold full;exact Nat.decidableBallLT _ _
def isB(X:Nat->Bool)(k b:Nat):Bool:=decide (b % 2 ^ k=0) && decide (full X k b) && (decide (4<=k) || !decide (full X (k+1) (blk (k+1) b)))
def freeL(X:Nat->Bool)(n k:Nat):List Nat:=(List.range n).filter (isB X k)
theorem two_pos(k:Nat):0<2 ^ k:=Nat.two_pow_pos k
theorem blk_le(k f:Nat):blk k f<=f:=Nat.div_mul_le_self _ _
theorem blk_lt(k f:Nat):f<blk k f+2 ^ k:=by
 have:=Nat.div_add_mod f (2 ^ k)
 have h2:=Nat.mod_lt f (two_pos k)
 unfold blk
 rw[Nat.mul_comm]
 omega
theorem blk_al(k f:Nat):blk k f % 2 ^ k=0:=Nat.mul_mod_left _ _
theorem al_mul{k b:Nat}(h:b % 2 ^ k=0):∃q,b=q*2 ^ k:=⟨b / 2 ^ k,by rw[Nat.div_mul_cancel (Nat.dvd_of_mod_eq_zero h)]⟩
theorem al_apart{k b c:Nat}(hb:b % 2 ^ k=0)(hc:c % 2 ^ k=0)(h1:b<c+2 ^ k)(h2:c<b+2 ^ k):b=c:=by
 obtain⟨q,rfl⟩:=al_mul hb
 obtain⟨r,rfl⟩:=al_mul hc
 have hp:=two_pos k
 have a1:q<r+1:=Nat.lt_of_mul_lt_mul_right (a:=2 ^ k) (by rw[Nat.add_mul,Nat.one_mul];exact h1)
 have a2:r<q+1:=Nat.lt_of_mul_lt_mul_right (a:=2 ^ k) (by rw[Nat.add_mul,Nat.one_mul];exact h2)
 have:q=r:=by omega
 rw[this]
theorem blk_eq{k f b:Nat}(hb:b % 2 ^ k=0)(h1:b<=f)(h2:f<b+2 ^ k):blk k f=b:=by
 have:=blk_le k f;have:=blk_lt k f
 exact al_apart (blk_al k f) hb (by omega) (by omega)
theorem blk_half(k f:Nat):blk k f=blk (k+1) f∨blk k f=blk (k+1) f+2 ^ k:=by
 have hp:2 ^ (k+1)=2 ^ k*2:=Nat.pow_succ 2 k
 have h0:=two_pos k
 have a1:=blk_le (k+1) f;have a2:=blk_lt (k+1) f
 have al:blk (k+1) f % 2 ^ k=0:=by
  obtain⟨q,hq⟩:=al_mul (blk_al (k+1) f)
  rw[hq,hp,← Nat.mul_assoc,Nat.mul_right_comm]
  exact Nat.mul_mod_left _ _
 rcases Nat.lt_or_ge f (blk (k+1) f+2 ^ k) with h|h
 ·exact .inl (blk_eq al a1 h)
 ·exact .inr (blk_eq (by rw[Nat.add_mod_right];exact al) h (by omega))
theorem blk_blk(k f:Nat):blk (k+1) (blk k f)=blk (k+1) f:=by
 have a1:=blk_le (k+1) f;have a2:=blk_lt (k+1) f;have a3:=blk_le k f
 refine blk_eq (blk_al _ _) ?_ (by omega)
 rcases blk_half k f with e|e <;> rw[e] <;> omega
theorem al_up{k b:Nat}(hb:b % 2 ^ k=0):b=blk (k+1) b∨b=blk (k+1) b+2 ^ k:=by
 have e:blk k b=b:=blk_eq hb (Nat.le_refl _) (by have:=two_pos k;omega)
 have:=blk_half k b
 rwa [e]at this
theorem al_down{k b:Nat}(h:b % 2 ^ (k+1)=0):b % 2 ^ k=0:=by
 obtain⟨q,rfl⟩:=al_mul h
 rw[Nat.pow_succ,← Nat.mul_assoc,Nat.mul_right_comm]
 exact Nat.mul_mod_left _ _
theorem full_half{X:Nat->Bool}{k p:Nat}:full X (k+1) p↔full X k p/\full X k (p+2 ^ k):=by
 have hp:2 ^ (k+1)=2 ^ k*2:=Nat.pow_succ 2 k
 constructor
 ·intro h
  refine⟨fun i hi=>h i (by omega),fun i hi=>?_⟩
  rw[Nat.add_assoc]
  exact h _ (by omega)
 ·rintro ⟨h1,h2⟩ i hi
  rcases Nat.lt_or_ge i (2 ^ k) with h|h
  ·exact h1 i h
  ·have:=h2 (i - 2 ^ k) (by omega)
   rwa [show p+2 ^ k+(i - 2 ^ k)=p+i by omega]at this
theorem isB_iff{X:Nat->Bool}{k b:Nat}:isB X k b=true↔b % 2 ^ k=0/\full X k b/\(k<4->¬full X (k+1) (blk (k+1) b)):=by
 unfold isB
 simp only[Bool.and_eq_true,decide_eq_true_eq,Bool.or_eq_true,Bool.not_eq_true',decide_eq_false_iff_not]
 constructor
 ·rintro ⟨⟨h1,h2⟩,h3⟩
  exact⟨h1,h2,fun h=>h3.resolve_left (by omega)⟩
 ·rintro ⟨h1,h2,h3⟩
  refine⟨⟨h1,h2⟩,?_⟩
  by_cases h:k<4
  ·exact .inr (h3 h)
  ·exact .inl (by omega)
theorem filter_upto{P:Nat->Bool}{m:Nat}(h:∀c,m<=c->P c=false):∀n,m<=n->(List.range n).filter P=(List.range m).filter P
 | 0,hm=>by rw[Nat.le_zero.1 hm]
 | n+1,hm=>by
  rcases Nat.lt_or_ge n m with h'|h'
  ·rw[show n+1=m by omega]
  ·rw[List.range_succ,List.filter_append,filter_upto h n h',List.filter_cons_of_neg (by rw[h n h'];simp)]
   simp
theorem filter_same{P Q:Nat->Bool}{m:Nat}(h:∀c,c<m->P c=Q c):(List.range m).filter P=(List.range m).filter Q :=
 List.filter_congr fun c hc=>h c (List.mem_range.1 hc)
def addX(X:Nat->Bool)(f:Nat):Nat->Bool:=fun i=>X i || decide (i=f)
section
variable {X:Nat->Bool} {f n:Nat} (hX:∀i,X i=true->i<f) (hf:f<n)
include hX
theorem full_add{k b:Nat}(hb:¬(b<=f/\f<b+2 ^ k)):full (addX X f) k b↔full X k b:=by
 constructor
 ·intro h i hi
  have:=h i hi
  unfold addX at this
  rcases Bool.or_eq_true_iff.1 this with h1|h1
  ·exact h1
  ·have:b+i=f:=by simpa using h1
   omega
 ·intro h i hi
  unfold addX
  rw[h i hi,Bool.true_or]
theorem full_not{k b:Nat}(h:f<b+2 ^ k):¬full X k b:=fun hh=>by
 have h0:=two_pos k
 have:=hX _ (hh (2 ^ k - 1) (by omega))
 omega
theorem full_add_not{k b:Nat}(h:f<b):¬full (addX X f) k b:=fun hh=>by
 have:=hh 0 (two_pos k)
 unfold addX at this
 rcases Bool.or_eq_true_iff.1 this with h1|h1
 ·have:=hX _ h1;omega
 ·have:b+0=f:=by simpa using h1
  omega
theorem buddy_full{k:Nat}(hk:full (addX X f) k (blk k f)):full (addX X f) (k+1) (blk (k+1) f)↔blk k f=blk (k+1) f+2 ^ k/\full X k (blk (k+1) f):=by
 have a1:=blk_le k f;have a2:=blk_lt k f
 have h0:=two_pos k
 rw[full_half]
 rcases blk_half k f with e|e
 ·constructor
  ·rintro ⟨_,h⟩
   exact(full_add_not hX (by omega) h).elim
  ·rintro ⟨h,_⟩
   omega
 ·constructor
  ·rintro ⟨h,_⟩
   exact⟨e,(full_add hX (by omega)).1 h⟩
  ·rintro ⟨_,h⟩
   exact⟨(full_add hX (by omega)).2 h,by rw[← e];exact hk⟩
theorem isB_far{k b:Nat}(h1:∀j,k<=j->¬full (addX X f) j (blk j f)):isB (addX X f) k b=isB X k b:=by
 have key:∀j,k<=j->∀c,c % 2 ^ j=0->(full (addX X f) j c↔full X j c):=fun j hj c hc=>by
  by_cases hcf:c<=f/\f<c+2 ^ j
  ·have e:=blk_eq hc hcf.1 hcf.2
   exact⟨fun h=>(h1 j hj (e ▸ h)).elim,fun h=>(full_not hX hcf.2 h).elim⟩
  ·exact full_add hX hcf
 have:isB (addX X f) k b=true↔isB X k b=true:=by
  rw[isB_iff,isB_iff]
  constructor
  ·rintro ⟨g1,g2,g3⟩
   exact⟨g1,(key k (Nat.le_refl _) b g1).1 g2,fun h4 h=>g3 h4 ((key (k+1) (by omega) _ (blk_al _ _)).2 h)⟩
  ·rintro ⟨g1,g2,g3⟩
   exact⟨g1,(key k (Nat.le_refl _) b g1).2 g2,fun h4 h=>g3 h4 ((key (k+1) (by omega) _ (blk_al _ _)).1 h)⟩
 cases h2:isB (addX X f) k b <;> cases h3:isB X k b <;> simp_all
theorem not_up{k:Nat}(h:¬full (addX X f) k (blk k f)):∀j,k<=j->¬full (addX X f) j (blk j f):=by
 intro j hj
 induction j with
 | zero=>rwa [show 0=k by omega]
 | succ j ih =>
  rcases Nat.lt_or_ge j k with h'|h'
  ·rwa [show j+1=k by omega]
  ·intro hh
   have hb:=full_half.1 hh
   rcases blk_half j f with e|e
   ·exact ih h' (by rw[e];exact hb.1)
   ·exact ih h' (by rw[e];exact hb.2)
theorem isB_ge{k c:Nat}(h:blk k f<=c):isB X k c=false:=by
 cases h1:isB X k c with
 | false=>rfl
 | true =>
  exfalso
  obtain⟨g1,g2,_⟩:=isB_iff.1 h1
  have:=blk_lt k f
  exact full_not hX (by omega) g2
theorem isB_add_gt{k c:Nat}(h:blk k f<c):isB (addX X f) k c=false:=by
 cases h1:isB (addX X f) k c with
 | false=>rfl
 | true =>
  exfalso
  obtain⟨g1,g2,_⟩:=isB_iff.1 h1
  have a1:=blk_le k f;have a2:=blk_lt k f
  rcases Nat.lt_or_ge f c with h'|h'
  ·exact full_add_not hX h' g2
  ·have:=al_apart g1 (blk_al k f) (by omega) (by have:=two_pos k;omega)
   omega
theorem isB_below{k c:Nat}(hk:k<4->blk (k+1) c≠blk (k+1) f)(h:c<blk k f):isB (addX X f) k c=isB X k c:=by
 have a1:=blk_le k f;have a2:=blk_lt k f
 have:isB (addX X f) k c=true↔isB X k c=true:=by
  rw[isB_iff,isB_iff]
  have k1:c % 2 ^ k=0->(full (addX X f) k c↔full X k c):=fun hc=>full_add hX fun hh=>by
   have:=blk_eq hc hh.1 hh.2
   omega
  have k2:k<4->(full (addX X f) (k+1) (blk (k+1) c)↔full X (k+1) (blk (k+1) c)):=fun h4=>full_add hX fun hh=>by
   have:=blk_eq (blk_al (k+1) c) hh.1 hh.2
   exact hk h4 this.symm
  constructor
  ·rintro ⟨g1,g2,g3⟩
   exact⟨g1,(k1 g1).1 g2,fun h4 h=>g3 h4 ((k2 h4).2 h)⟩
  ·rintro ⟨g1,g2,g3⟩
   exact⟨g1,(k1 g1).2 g2,fun h4 h=>g3 h4 ((k2 h4).1 h)⟩
 cases h2:isB (addX X f) k c <;> cases h3:isB X k c <;> simp_all
include hf
theorem free_put{k:Nat}(hk:full (addX X f) k (blk k f))(hn:k<4->¬full (addX X f) (k+1) (blk (k+1) f)):freeL (addX X f) n k=freeL X n k++[blk k f]:=by
 have a1:=blk_le k f
 unfold freeL
 rw[filter_upto (m:=blk k f+1) (fun c hc=>isB_add_gt hX hc) n (by omega),filter_upto (m:=blk k f) (fun c hc=>isB_ge hX hc) n (by omega),List.range_succ,List.filter_append]
 rw[List.filter_cons_of_pos (isB_iff.2 ⟨blk_al k f,hk,fun h=>by rw[blk_blk];exact hn h⟩),List.filter_nil]
 congr 1
 refine filter_same fun c hc=>?_
 by_cases hp:k<4/\blk (k+1) c=blk (k+1) f
 ·obtain⟨h4,hp⟩:=hp
  have x1:isB X k c=false:=by
   cases h1:isB X k c with
   | false=>rfl
   | true =>
    exfalso
    obtain⟨g1,g2,g3⟩:=isB_iff.1 h1
    have hb:=al_up g1
    rw[hp]at hb
    have hh:=two_pos k
    rcases blk_half k f with e|e
    ·omega
    ·refine hn h4 ((buddy_full hX hk).2 ⟨e,?_⟩)
     rcases hb with hb|hb
     ·rw[← hb];exact g2
     ·omega
  have x2:isB (addX X f) k c=false:=by
   cases h1:isB (addX X f) k c with
   | false=>rfl
   | true =>
    exfalso
    obtain⟨g1,g2,g3⟩:=isB_iff.1 h1
    have hb:=al_up g1
    rw[hp]at hb
    have hh:=two_pos k
    rcases blk_half k f with e|e
    ·omega
    ·refine hn h4 (full_half.2 ⟨?_,by rw[← e];exact hk⟩)
     rcases hb with hb|hb
     ·rw[← hb];exact g2
     ·omega
  rw[x1,x2]
 ·exact isB_below hX (fun h4 e=>hp ⟨h4,e⟩) hc
theorem free_join{k:Nat}(h4:k<4)(hk:full (addX X f) k (blk k f))(hj:full (addX X f) (k+1) (blk (k+1) f)):freeL X n k=freeL (addX X f) n k++[blk (k+1) f]/\blk k f=blk (k+1) f+2 ^ k:=by
 obtain⟨e,hb⟩:=(buddy_full hX hk).1 hj
 have a1:=blk_le k f;have a2:=blk_lt k f
 have h0:=two_pos k
 have hal:blk (k+1) f % 2 ^ k=0:=al_down (blk_al (k+1) f)
 have hup:∀c,c % 2 ^ k=0->blk (k+1) c=blk (k+1) f->c=blk (k+1) f∨c=blk k f:=fun c hc h=>by
  have:=al_up hc
  rw[h]at this
  rw[e];exact this
 have hpb:blk (k+1) (blk (k+1) f)=blk (k+1) f:=blk_eq (blk_al _ _) (Nat.le_refl _) (by have:=two_pos (k+1);omega)
 refine⟨?_,e⟩
 unfold freeL
 have p1:∀c,blk (k+1) f<c->isB X k c=false:=fun c hc=>by
  cases h1:isB X k c with
  | false=>rfl
  | true =>
   exfalso
   obtain⟨g1,g2,_⟩:=isB_iff.1 h1
   rcases Nat.lt_or_ge c (blk k f) with h'|h'
   ·have:=al_apart g1 hal (by omega) (by omega)
    omega
   ·exact full_not hX (by omega) g2
 have p2:∀c,blk (k+1) f<=c->isB (addX X f) k c=false:=fun c hc=>by
  cases h1:isB (addX X f) k c with
  | false=>rfl
  | true =>
   exfalso
   obtain⟨g1,g2,g3⟩:=isB_iff.1 h1
   rcases Nat.lt_or_ge (blk k f) c with h'|h'
   ·rw[isB_add_gt hX h']at h1;cases h1
   ·have hlt:=blk_lt (k+1) f
    have hp:2 ^ (k+1)=2 ^ k*2:=Nat.pow_succ 2 k
    have:blk (k+1) c=blk (k+1) f:=blk_eq (blk_al _ _) hc (by omega)
    rw[this]at g3
    exact g3 h4 hj
 rw[filter_upto (m:=blk (k+1) f+1) (fun c hc=>p1 c hc) n (by omega),filter_upto (m:=blk (k+1) f) p2 n (by omega),List.range_succ,List.filter_append]
 have hin:isB X k (blk (k+1) f)=true:=isB_iff.2 ⟨hal,hb,fun _ h=>full_not hX (by rw[hpb];exact blk_lt (k+1) f) h⟩
 rw[List.filter_cons_of_pos hin,List.filter_nil]
 congr 1
 refine(filter_same fun c hc=>?_).symm
 refine isB_below hX (fun _ h=>?_) (by omega)
 have:=blk_lt (k+1) c
 have:=blk_le (k+1) c
 omega
end
end Go.AM
namespace Go.AM
theorem free_mem{X:Nat->Bool}{n k b:Nat}:b∈freeL X n k↔b<n/\isB X k b=true:=by
 unfold freeL
 rw[List.mem_filter,List.mem_range]
theorem free_sorted(X:Nat->Bool)(n k:Nat):(freeL X n k).Pairwise (· < ·):=List.pairwise_lt_range.filter _
theorem free_inside{X:Nat->Bool}{n k b:Nat}(hX:∀i,X i=true->i<n)(h:b∈freeL X n k):b % 2 ^ k=0/\b+2 ^ k<=n:=by
 obtain⟨_,h2⟩:=free_mem.1 h
 obtain⟨g1,g2,_⟩:=isB_iff.1 h2
 have h0:=two_pos k
 have:=hX _ (g2 (2 ^ k - 1) (by omega))
 exact⟨g1,by omega⟩
theorem free_full{X:Nat->Bool}{n k b:Nat}(h:b∈freeL X n k):full X k b:=(isB_iff.1 (free_mem.1 h).2).2.1
theorem free_nobuddy{X:Nat->Bool}{n k p:Nat}(h4:k<4)(hp:p % 2 ^ (k+1)=0)(h1:p∈freeL X n k)(h2:p+2 ^ k∈freeL X n k):False:=by
 have g:=(isB_iff.1 (free_mem.1 h1).2).2.2 h4
 have e:blk (k+1) p=p:=blk_eq hp (Nat.le_refl _) (by have:=two_pos (k+1);omega)
 rw[e]at g
 exact g (full_half.2 ⟨free_full h1,free_full h2⟩)
theorem full_sub{X:Nat->Bool}{k:Nat}:∀{j f:Nat},k<=j->full X j (blk j f)->full X k (blk k f):=by
 intro j
 induction j with
 | zero=>intro f hk h;rwa [show k=0 by omega]
 | succ j ih =>
  intro f hk h
  rcases Nat.lt_or_ge j k with h'|h'
  ·rwa [show k=j+1 by omega]
  ·have hb:=full_half.1 h
   rcases blk_half j f with e|e
   ·exact ih h' (by rw[e];exact hb.1)
   ·exact ih h' (by rw[e];exact hb.2)
theorem free_one{X:Nat->Bool}{n k j b c i:Nat}(hk:k<=4)(hj:j<=4)(h1:b∈freeL X n k)(h2:c∈freeL X n j)(b1:b<=i)(b2:i<b+2 ^ k)(c1:c<=i)(c2:i<c+2 ^ j):k=j/\b=c:=by
 obtain⟨g1,g2,g3⟩:=isB_iff.1 (free_mem.1 h1).2
 obtain⟨k1,k2,k3⟩:=isB_iff.1 (free_mem.1 h2).2
 have e1:=blk_eq g1 b1 b2
 have e2:=blk_eq k1 c1 c2
 rcases Nat.lt_trichotomy k j with h|h|h
 ·exfalso
  refine g3 (by omega) ?_
  rw[← e1,blk_blk]
  exact full_sub (j:=j) (by omega) (by rw[e2];exact k2)
 ·subst h
  exact⟨rfl,by rw[← e1,← e2]⟩
 ·exfalso
  refine k3 (by omega) ?_
  rw[← e2,blk_blk]
  exact full_sub (j:=k) (by omega) (by rw[e1];exact g2)
theorem free_cover{X:Nat->Bool}{n i:Nat}(hX:∀i,X i=true->i<n)(hi:X i=true):∃k,k<=4/\blk k i∈freeL X n k:=by
 have key:∀d k,k+d=4->full X k (blk k i)->∃k,k<=4/\blk k i∈freeL X n k:=by
  intro d
  induction d with
  | zero =>
   intro k hk h
   have:=blk_le k i;have:=hX i hi
   exact⟨k,by omega,free_mem.2 ⟨by omega,isB_iff.2 ⟨blk_al k i,h,fun h4=>by omega⟩⟩⟩
  | succ d ih =>
   intro k hk h
   by_cases hf:full X (k+1) (blk (k+1) i)
   ·exact ih (k+1) (by omega) hf
   ·have:=blk_le k i;have:=hX i hi
    exact⟨k,by omega,free_mem.2 ⟨by omega,isB_iff.2 ⟨blk_al k i,h,fun _=>by rw[blk_blk];exact hf⟩⟩⟩
 refine key 4 0 rfl ?_
 intro j hj
 have e:blk 0 i=i:=by simp[blk]
 have:j=0:=by simpa using hj
 rw[e,this]
 exact hi
theorem nodup_flat{α β:Type}{g:α->List β}:∀{l:List α},(∀a∈l,(g a).Nodup)->l.Pairwise (fun a b=>∀x∈g a,x∉g b)->(l.flatMap g).Nodup
 | [],_,_=>by simp
 | a :: l,h1,h2=>by
  rw[List.flatMap_cons,List.nodup_append]
  obtain⟨h3,h4⟩:=List.pairwise_cons.1 h2
  refine⟨h1 a (by simp),nodup_flat (fun b hb=>h1 b (by simp[hb])) h4,fun x hx y hy e=>?_⟩
  subst e
  obtain⟨b,hb,hxb⟩:=List.mem_flatMap.1 hy
  exact h3 b hb x hx hxb
def frmK(X:Nat->Bool)(n k:Nat):List Nat:=(freeL X n k).flatMap fun b=>(List.range (2 ^ k)).map (b+·)
def frmA(X:Nat->Bool)(n:Nat):List Nat:=(List.range 5).flatMap (frmK X n)
theorem frmK_mem{X:Nat->Bool}{n k i:Nat}:i∈frmK X n k↔∃b∈freeL X n k,b<=i/\i<b+2 ^ k:=by
 unfold frmK
 rw[List.mem_flatMap]
 constructor
 ·rintro ⟨b,hb,h⟩
  obtain⟨j,hj,rfl⟩:=List.mem_map.1 h
  rw[List.mem_range]at hj
  exact⟨b,hb,by omega,by omega⟩
 ·rintro ⟨b,hb,h1,h2⟩
  exact⟨b,hb,List.mem_map.2 ⟨i - b,List.mem_range.2 (by omega),by omega⟩⟩
theorem frmK_nodup(X:Nat->Bool)(n k:Nat)(hk:k<=4):(frmK X n k).Nodup:=by
 unfold frmK
 refine nodup_flat (fun b hb=>?_) ?_
 ·unfold List.Nodup
  rw[List.pairwise_map]
  exact List.pairwise_lt_range.imp fun h=>by omega
 ·refine(free_sorted X n k).imp_of_mem ?_
  intro b c hb hc hlt i h1 h2
  obtain⟨x,hx,rfl⟩:=List.mem_map.1 h1
  obtain⟨y,hy,e⟩:=List.mem_map.1 h2
  rw[List.mem_range]at hx hy
  have:=(free_one hk hk hb hc (i:=b+x) (by omega) (by omega) (by omega) (by omega)).2
  omega
theorem frmA_nodup(X:Nat->Bool)(n:Nat):(frmA X n).Nodup:=by
 unfold frmA
 refine nodup_flat (fun k hk=>frmK_nodup X n k (by rw[List.mem_range]at hk;omega)) ?_
 refine(List.pairwise_lt_range (n:=5)).imp_of_mem ?_
 intro k j hk hj hlt i h1 h2
 rw[List.mem_range]at hk hj
 obtain⟨b,hb,b1,b2⟩:=frmK_mem.1 h1
 obtain⟨c,hc,c1,c2⟩:=frmK_mem.1 h2
 have:=(free_one (by omega) (by omega) hb hc b1 b2 c1 c2).1
 omega
theorem frmA_mem{X:Nat->Bool}{n i:Nat}(hX:∀i,X i=true->i<n):i∈frmA X n↔X i=true:=by
 unfold frmA
 rw[List.mem_flatMap]
 constructor
 ·rintro ⟨k,hk,h⟩
  obtain⟨b,hb,b1,b2⟩:=frmK_mem.1 h
  have:=free_full hb (i - b) (by omega)
  rwa [show b+(i - b)=i by omega]at this
 ·intro h
  obtain⟨k,hk,hb⟩:=free_cover hX h
  exact⟨k,List.mem_range.2 (by omega),frmK_mem.2 ⟨_,hb,blk_le k i,blk_lt k i⟩⟩
theorem frmA_perm{X:Nat->Bool}{n:Nat}(hX:∀i,X i=true->i<n):(frmA X n).Perm ((List.range n).filter X):=by
 rw[List.perm_ext_iff_of_nodup (frmA_nodup X n) (List.nodup_range.filter _)]
 intro i
 rw[frmA_mem hX,List.mem_filter,List.mem_range]
 exact⟨fun h=>⟨hX i h,h⟩,fun h=>h.2⟩
theorem frmK_len(X:Nat->Bool)(n k:Nat):(frmK X n k).length=(freeL X n k).length*2 ^ k:=by
 unfold frmK
 induction freeL X n k with
 | nil=>simp
 | cons b r ih=>rw[List.flatMap_cons,List.length_append,ih,List.length_map,List.length_range,List.length_cons,Nat.add_mul];omega
theorem count_free{X:Nat->Bool}{n:Nat}(hX:∀i,X i=true->i<n):(freeL X n 0).length+(freeL X n 1).length*2+(freeL X n 2).length*4+(freeL X n 3).length*8+(freeL X n 4).length*16=((List.range n).filter X).length:=by
 rw[← (frmA_perm hX).length_eq]
 unfold frmA
 rw[show List.range 5=[0,1,2,3,4] from rfl]
 simp only[List.flatMap_cons,List.flatMap_nil,List.length_append,List.length_nil,frmK_len]
 omega
end Go.AM
namespace Go.AM
def okM(n:Nat):(Nat->Bool)->List (Nat×Nat)->Prop
 | _,[]=>True
 | N,m :: r=>N m.1=true/\N m.2=false/\m.1<n/\m.2<n/\okM n (movF N m) r
theorem plan_ok{M:Nat->Bool}{n:Nat}:∀t l h (N:Nat->Bool),h<=n->l<=n->(∀i,l<=i->i<h->N i=M i)->okM n N (planF M n t l h)
 | 0,_,_,_,_,_,_=>trivial
 | t+1,l,h,N,hn,ln,h1=>by
  unfold planF
  obtain⟨a1,a2,a3,a4⟩:=loF_spec M (n - l) l
  obtain⟨b1,b2,b3⟩:=hiF_spec M h
  generalize loF M (n - l) l=lo at *
  generalize hiF M h=hi at *
  by_cases hc:lo+1<hi
  ·rw[if_pos hc]
   refine⟨?_,?_,by simp only;omega,by simp only;omega,plan_ok t (lo+1) (hi - 1) _ (by omega) (by omega) fun i g1 g2=>?_⟩
   ·show N (hi - 1)=true
    rw[h1 _ (by omega) (by omega)]
    exact b3 (by omega)
   ·show N lo=false
    rw[h1 _ (by omega) (by omega)]
    exact a4 (by omega)
   ·rw[movF_other (by simp only;omega) (by simp only;omega)]
    exact h1 i (by omega) (by omega)
  ·rw[if_neg hc]
   trivial
def b2n(b:Bool):Nat:=if b then 1 else 0
def cntM(N:Nat->Bool):Nat->Nat
 | 0=>0
 | n+1=>cntM N n+b2n (N n)
theorem cntM_congr{N N':Nat->Bool}:∀n,(∀i,i<n->N i=N' i)->cntM N n=cntM N' n
 | 0,_=>rfl
 | n+1,h=>by
  unfold cntM
  rw[cntM_congr n fun i hi=>h i (by omega),h n (by omega)]
def updB(N:Nat->Bool)(a:Nat)(v:Bool):Nat->Bool:=fun i=>if i=a then v else N i
theorem cntM_upd(N:Nat->Bool)(a:Nat)(v:Bool):∀n,a<n->cntM (updB N a v) n+b2n (N a)=cntM N n+b2n v
 | 0,h=>by omega
 | n+1,h=>by
  unfold cntM
  by_cases e:a=n
  ·subst e
   rw[cntM_congr a (N':=N) fun i hi=>by unfold updB;rw[if_neg (by omega)]]
   have:updB N a v a=v:=by unfold updB;rw[if_pos rfl]
   rw[this];omega
  ·have ih:=cntM_upd N a v n (by omega)
   have:updB N a v n=N n:=by unfold updB;rw[if_neg (fun h=>e h.symm)]
   rw[this];omega
theorem movF_upd{N:Nat->Bool}{m:Nat×Nat}:movF N m=updB (updB N m.2 true) m.1 false:=by
 funext i
 unfold movF updB
 rfl
theorem cntM_mov{N:Nat->Bool}{n:Nat}{m:Nat×Nat}(h1:N m.1=true)(h2:N m.2=false)(l1:m.1<n)(l2:m.2<n):cntM (movF N m) n=cntM N n:=by
 have hne:m.1≠m.2:=fun h=>by rw[h,h2]at h1;cases h1
 have e1:=cntM_upd N m.2 true n l2
 have e2:=cntM_upd (updB N m.2 true) m.1 false n l1
 rw[← movF_upd]at e2
 have:updB N m.2 true m.1=true:=by unfold updB;rw[if_neg hne];exact h1
 rw[this]at e2
 rw[h2]at e1
 simp only[b2n,if_true,Bool.false_eq_true,if_false]at e1 e2
 omega
theorem cntM_plan{n:Nat}:∀(ms:List (Nat×Nat)) (N:Nat->Bool),okM n N ms->cntM (ms.foldl movF N) n=cntM N n
 | [],_,_=>rfl
 | m :: r,N,h=>by
  obtain⟨h1,h2,l1,l2,h3⟩:=h
  rw[List.foldl_cons,cntM_plan r _ h3,cntM_mov h1 h2 l1 l2]
theorem cntM_le(N:Nat->Bool):∀n,cntM N n<=n
 | 0=>Nat.le_refl _
 | n+1=>by
  unfold cntM b2n
  have:=cntM_le N n
  split <;> omega
theorem packed_cnt{N:Nat->Bool}:∀{n:Nat},packed N n->(∀i,i<cntM N n->N i=true)/\∀i,cntM N n<=i->i<n->N i=false:=by
 intro n
 rintro ⟨m,hm,h1,h2⟩
 have key:∀k,k<=n->cntM N k=min k m:=by
  intro k
  induction k with
  | zero=>intro _;simp[cntM]
  | succ k ih =>
   intro hk
   unfold cntM
   rw[ih (by omega)]
   rcases Nat.lt_or_ge k m with h|h
   ·rw[h1 k h];simp only[b2n,if_true];omega
   ·rw[h2 k h (by omega)];simp only[b2n,Bool.false_eq_true,if_false];omega
 have e:cntM N n=m:=by rw[key n (Nat.le_refl _)];omega
 rw[e]
 exact⟨h1,h2⟩
theorem free_packed{N X:Nat->Bool}{n:Nat}(hp:packed N n)(hX:∀i,i<n->X i=!N i):(List.range n).filter X=List.range' (cntM N n) (n - cntM N n):=by
 obtain⟨h1,h2⟩:=packed_cnt hp
 have hle:=cntM_le N n
 generalize cntM N n=m at *
 have hr:List.range n=List.range' 0 m++List.range' m (n - m):=by
  rw[List.range_eq_range']
  have:=List.range'_append (s:=0) (m:=m) (n:=n - m) (step:=1)
  simp only[Nat.zero_add,Nat.one_mul]at this
  rw[this]
  congr 1
  omega
 rw[hr,List.filter_append]
 have e1:(List.range' 0 m).filter X=[]:=by
  rw[List.filter_eq_nil_iff]
  intro i hi
  have:=List.mem_range'_1.1 hi
  rw[hX i (by omega),h1 i (by omega)]
  simp
 have e2:(List.range' m (n - m)).filter X=List.range' m (n - m):=by
  rw[List.filter_eq_self]
  intro i hi
  have:=List.mem_range'_1.1 hi
  rw[hX i (by omega),h2 i (by omega) (by omega)]
  rfl
 rw[e1,e2,List.nil_append]
theorem free_count{N X:Nat->Bool}:∀{n:Nat},(∀i,i<n->X i=!N i)->((List.range n).filter X).length+cntM N n=n
 | 0,_=>rfl
 | n+1,h=>by
  have ih:=free_count (n:=n) fun i hi=>h i (by omega)
  rw[List.range_succ,List.filter_append,List.length_append]
  unfold cntM
  have hn:=h n (by omega)
  cases hN:N n with
  | true=>rw[hN]at hn;rw[List.filter_cons_of_neg (by rw[hn];simp)];simp only[List.filter_nil,List.length_nil,b2n,if_true];omega
  | false=>rw[hN]at hn;rw[List.filter_cons_of_pos (by rw[hn];rfl)];simp only[List.filter_nil,List.length_cons,List.length_nil,b2n,Bool.false_eq_true,if_false];omega
end Go.AM
namespace Go.AM
open Go
def bud(k f:Nat):Nat:=if f % 2 ^ (k+1)<2 ^ k then f+2 ^ k else f - 2 ^ k
theorem xor_all:((List.range 4).all fun k=>(List.range 64).all fun f=>decide (bitsV .xor .i64 (f:Int) (shlV .i64 1 (k:Int))=((bud k f:Nat):Int)))=true:=by kernel_rfl
theorem xor_bud{k f:Nat}(hk:k<4)(hf:f<64):bitsV .xor .i64 (f:Int) (shlV .i64 1 (k:Int))=((bud k f:Nat):Int):=by
 have h:=xor_all
 rw[List.all_eq_true]at h
 have h1:=h k (List.mem_range.2 hk)
 rw[List.all_eq_true]at h1
 exact of_decide_eq_true (h1 f (List.mem_range.2 hf))
theorem shl_all:((List.range 5).all fun k=>decide (shlV .i64 1 (k:Int)=((2 ^ k:Nat):Int)))=true:=by kernel_rfl
theorem shl_one{k:Nat}(hk:k<5):shlV .i64 1 (k:Int)=((2 ^ k:Nat):Int):=by
 have h:=shl_all
 rw[List.all_eq_true]at h
 exact of_decide_eq_true (h k (List.mem_range.2 hk))
theorem bud_low{k f:Nat}(h:f % 2 ^ (k+1)=0):bud k f=f+2 ^ k:=by
 unfold bud
 rw[if_pos (by rw[h];exact two_pos k)]
theorem bud_high{k p:Nat}(h:p % 2 ^ (k+1)=0):bud k (p+2 ^ k)=p:=by
 unfold bud
 have hp:2 ^ (k+1)=2 ^ k*2:=Nat.pow_succ 2 k
 have h0:=two_pos k
 have:(p+2 ^ k) % 2 ^ (k+1)=2 ^ k:=by
  obtain⟨q,rfl⟩:=al_mul h
  rw[Nat.add_comm,Nat.add_mul_mod_self_right,Nat.mod_eq_of_lt (by omega)]
 rw[this,if_neg (by omega)]
 omega
theorem bud_blk{k f:Nat}:(blk k f=blk (k+1) f/\bud k (blk k f)=blk (k+1) f+2 ^ k)∨(blk k f=blk (k+1) f+2 ^ k/\bud k (blk k f)=blk (k+1) f):=by
 rcases blk_half k f with e|e
 ·exact .inl ⟨e,by rw[e];exact bud_low (blk_al _ _)⟩
 ·exact .inr ⟨e,by rw[e];exact bud_high (blk_al _ _)⟩
theorem bud_out{X:Nat->Bool}{n k b:Nat}(h4:k<4)(h:b∈freeL X n k):bud k b∉freeL X n k:=by
 intro hb
 have hal:=(isB_iff.1 (free_mem.1 h).2).1
 have e:blk k b=b:=blk_eq hal (Nat.le_refl _) (by have:=two_pos k;omega)
 have hh:=bud_blk (k:=k) (f:=b)
 rw[e]at hh
 rcases hh with⟨h1,h2⟩|⟨h1,h2⟩
 ·rw[h2]at hb
  rw[h1]at h
  exact free_nobuddy h4 (blk_al _ _) h hb
 ·rw[h2]at hb
  rw[h1]at h
  exact free_nobuddy h4 (blk_al _ _) hb h
theorem count_last{l:List Int}{x:Int}(h:∀y∈l,y<x):(l.countP fun y=>decide (y<x))=l.length:=by
 rw[List.countP_eq_length]
 intro y hy
 simpa using h y hy
def frmB(k:Nat)(bs:List Nat):List Nat:=bs.flatMap fun b=>(List.range (2 ^ k)).map (b+·)
theorem frmK_eq(X:Nat->Bool)(n k:Nat):frmK X n k=frmB k (freeL X n k):=rfl
def frmF(X:Nat->Bool)(n:Nat):Nat->Nat->List Nat
 | 0,_=>[]
 | t+1,k=>frmK X n k++frmF X n t (k+1)
def seenL(S:List Nat):List Bool:=(List.range 256).map fun i=>decide (i∈S)
theorem seen_len(S:List Nat):(seenL S).length=256:=by unfold seenL;simp
theorem seen_get{S:List Nat}{i:Nat}(h:i<256):(seenL S)[i]?=some (decide (i∈S)):=by
 unfold seenL
 rw[List.getElem?_map,List.getElem?_range h]
 rfl
theorem seen_set{S:List Nat}{i:Nat}(h:i<256):(seenL S).set i true=seenL (S++[i]):=by
 apply List.ext_getElem?
 intro j
 rw[List.getElem?_set]
 rcases Nat.lt_or_ge j 256 with hj|hj
 ·rw[seen_get hj,seen_get hj]
  by_cases e:i=j
  ·subst e
   rw[if_pos rfl,if_pos (by rw[seen_len];exact hj)]
   simp
  ·rw[if_neg e]
   have e':¬j=i:=fun h=>e h.symm
   simp[e']
 ·rw[if_neg (by omega),List.getElem?_eq_none (by rw[seen_len];exact hj),List.getElem?_eq_none (by rw[seen_len];exact hj)]
theorem seen_nil:seenL []=List.replicate 256 false:=by
 apply List.ext_getElem?
 intro j
 rcases Nat.lt_or_ge j 256 with hj|hj
 ·rw[seen_get hj,List.getElem?_replicate,if_pos hj];simp
 ·rw[List.getElem?_eq_none (by rw[seen_len];exact hj),List.getElem?_eq_none (by rw[List.length_replicate];exact hj)]
end Go.AM

