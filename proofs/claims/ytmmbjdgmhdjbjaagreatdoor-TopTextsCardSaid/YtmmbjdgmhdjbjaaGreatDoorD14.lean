/- Own work over the model of the kit. -/
import Derived.Test.YtmmbjdgmhdjbjaaGreatDoorProg
import Derived.Test.YtmmbjdgmhdjbjaaGreatDoorD4
import Derived.Test.YtmmbjdgmhdjbjaaGreatDoorD10
import Derived.Test.YtmmbjdgmhdjbjaaGreatDoorD6
set_option linter.constructorNameAsVariable false
set_option linter.unnecessarySimpa false
set_option linter.unusedSimpArgs false
set_option linter.unusedVariables false
set_option maxRecDepth 100000
namespace Go.AM
private theorem eqk {α:Sort _} {a b:α} (h:a=b):a=b:=Eq.trans h (Eq.refl _)
open Go Go.Proofs
noncomputable def T2:Ty:=(aw Tryz.prog 2).getD ⟨false,0,0,none,.bool⟩
@[go_sem] theorem ty2:aw Tryz.prog 2=some T2:=eqk (by kernel_rfl)
@[go_sem] theorem aaa:T2.agg=false:=eqk (by kernel_rfl)
@[go_sem] theorem WD:T2.size=1:=eqk (by kernel_rfl)
@[go_sem] theorem Ul:T2.bytes=8:=eqk (by kernel_rfl)
@[go_sem] theorem Xu:T2.want=none:=eqk (by kernel_rfl)
@[go_sem] theorem Xf:T2.desc=.int .i64:=eqk (by kernel_rfl)
@[go_sem] theorem Zi:T2.arr=none:=eqk (by kernel_rfl)
@[go_sem] theorem Kr:T2.zero=some (.int .i64 0):=eqk (by kernel_rfl)
@[go_sem] theorem TY:eC T2=some (.int .i64 0):=eqk (by kernel_rfl)
@[go_sem] theorem L6:aD T2=some (.int .i64 0):=eqk (by kernel_rfl)
@[go_sem ↓] theorem aaG:(∃z,T2.zero=some z/\z.cells.size=T2.size)=True:=by
 refine eq_true ⟨_,Kr,?_⟩
 kernel_rfl
noncomputable def T3:Ty:=(aw Tryz.prog 3).getD ⟨false,0,0,none,.bool⟩
@[go_sem] theorem ty3:aw Tryz.prog 3=some T3:=eqk (by kernel_rfl)
@[go_sem] theorem Zs:T3.agg=false:=eqk (by kernel_rfl)
@[go_sem] theorem Vy:T3.size=1:=eqk (by kernel_rfl)
@[go_sem] theorem SG:T3.bytes=8:=eqk (by kernel_rfl)
@[go_sem] theorem W6:T3.want=none:=eqk (by kernel_rfl)
@[go_sem] theorem WQ:T3.desc=.int .i64:=eqk (by kernel_rfl)
@[go_sem] theorem Z5:T3.arr=none:=eqk (by kernel_rfl)
@[go_sem] theorem Mp:T3.zero=some (.int .i64 0):=eqk (by kernel_rfl)
@[go_sem] theorem UM:eC T3=some (.int .i64 0):=eqk (by kernel_rfl)
@[go_sem] theorem KM:aD T3=some (.int .i64 0):=eqk (by kernel_rfl)
@[go_sem ↓] theorem ab2:(∃z,T3.zero=some z/\z.cells.size=T3.size)=True:=by
 refine eq_true ⟨_,Mp,?_⟩
 kernel_rfl
noncomputable def T4:Ty:=(aw Tryz.prog 4).getD ⟨false,0,0,none,.bool⟩
@[go_sem] theorem ty4:aw Tryz.prog 4=some T4:=eqk (by kernel_rfl)
@[go_sem] theorem Zr:T4.agg=false:=eqk (by kernel_rfl)
@[go_sem] theorem Yp:T4.size=1:=eqk (by kernel_rfl)
@[go_sem] theorem T7:T4.bytes=1:=eqk (by kernel_rfl)
@[go_sem] theorem Ww:T4.want=none:=eqk (by kernel_rfl)
@[go_sem] theorem VM:T4.desc=.bool:=eqk (by kernel_rfl)
@[go_sem] theorem Z9:T4.arr=none:=eqk (by kernel_rfl)
@[go_sem] theorem LA:T4.zero=some (.bool false):=eqk (by kernel_rfl)
@[go_sem] theorem Ut:eC T4=some (.bool false):=eqk (by kernel_rfl)
@[go_sem] theorem Lp:aD T4=some (.bool false):=eqk (by kernel_rfl)
@[go_sem ↓] theorem aaV:(∃z,T4.zero=some z/\z.cells.size=T4.size)=True:=by
 refine eq_true ⟨_,LA,?_⟩
 kernel_rfl
noncomputable def T5:Ty:=(aw Tryz.prog 5).getD ⟨false,0,0,none,.bool⟩
@[go_sem] theorem ty5:aw Tryz.prog 5=some T5:=eqk (by kernel_rfl)
@[go_sem] theorem ZQ:T5.agg=false:=eqk (by kernel_rfl)
@[go_sem] theorem XK:T5.size=1:=eqk (by kernel_rfl)
@[go_sem] theorem TP:T5.bytes=1:=eqk (by kernel_rfl)
@[go_sem] theorem Vw:T5.want=none:=eqk (by kernel_rfl)
@[go_sem] theorem WM:T5.desc=.int .u8:=eqk (by kernel_rfl)
@[go_sem] theorem Zt:T5.arr=none:=eqk (by kernel_rfl)
@[go_sem] theorem Lm:T5.zero=some (.int .u8 0):=eqk (by kernel_rfl)
@[go_sem] theorem Um:eC T5=some (.int .u8 0):=eqk (by kernel_rfl)
@[go_sem] theorem M7:aD T5=some (.int .u8 0):=eqk (by kernel_rfl)
@[go_sem ↓] theorem aaJ:(∃z,T5.zero=some z/\z.cells.size=T5.size)=True:=by
 refine eq_true ⟨_,Lm,?_⟩
 kernel_rfl
noncomputable def T9:Ty:=(aw Tryz.prog 9).getD ⟨false,0,0,none,.bool⟩
@[go_sem] theorem ty9:aw Tryz.prog 9=some T9:=eqk (by kernel_rfl)
@[go_sem] theorem Z8:T9.agg=false:=eqk (by kernel_rfl)
@[go_sem] theorem X4:T9.size=1:=eqk (by kernel_rfl)
@[go_sem] theorem Sj:T9.bytes=16:=eqk (by kernel_rfl)
@[go_sem] theorem VH:T9.want=none:=eqk (by kernel_rfl)
@[go_sem] theorem KF:T9.desc=.string:=eqk (by kernel_rfl)
@[go_sem] theorem ZD:T9.arr=none:=eqk (by kernel_rfl)
@[go_sem] theorem Kj:T9.zero=some (.string ⟨#[]⟩):=eqk (by kernel_rfl)
@[go_sem] theorem UT:eC T9=some (.str []):=eqk (by kernel_rfl)
@[go_sem] theorem Kb:aD T9=some (.str []):=eqk (by kernel_rfl)
@[go_sem ↓] theorem ab1:(∃z,T9.zero=some z/\z.cells.size=T9.size)=True:=by
 refine eq_true ⟨_,Kj,?_⟩
 kernel_rfl
noncomputable def T21:Ty:=(aw Tryz.prog 21).getD ⟨false,0,0,none,.bool⟩
@[go_sem] theorem ace:aw Tryz.prog 21=some T21:=eqk (by kernel_rfl)
@[go_sem] theorem Yd:T21.agg=false:=eqk (by kernel_rfl)
@[go_sem] theorem Ue:T21.size=1:=eqk (by kernel_rfl)
@[go_sem] theorem PI:T21.bytes=4:=eqk (by kernel_rfl)
@[go_sem] theorem TB:T21.want=none:=eqk (by kernel_rfl)
@[go_sem] theorem Sx:T21.desc=.int .i32:=eqk (by kernel_rfl)
@[go_sem] theorem Ya:T21.arr=none:=eqk (by kernel_rfl)
@[go_sem] theorem GO:T21.zero=some (.int .i32 0):=eqk (by kernel_rfl)
@[go_sem] theorem QT:eC T21=some (.int .i32 0):=eqk (by kernel_rfl)
@[go_sem] theorem IJ:aD T21=some (.int .i32 0):=eqk (by kernel_rfl)
@[go_sem ↓] theorem ZN:(∃z,T21.zero=some z/\z.cells.size=T21.size)=True:=by
 refine eq_true ⟨_,GO,?_⟩
 kernel_rfl
noncomputable def T22:Ty:=(aw Tryz.prog 22).getD ⟨false,0,0,none,.bool⟩
@[go_sem] theorem acb:aw Tryz.prog 22=some T22:=eqk (by kernel_rfl)
@[go_sem] theorem Yg:T22.agg=false:=eqk (by kernel_rfl)
@[go_sem] theorem UR:T22.size=1:=eqk (by kernel_rfl)
@[go_sem] theorem Px:T22.bytes=24:=eqk (by kernel_rfl)
@[go_sem] theorem TQ:T22.want=none:=eqk (by kernel_rfl)
@[go_sem] theorem Tf:T22.desc=.slice 52:=eqk (by kernel_rfl)
@[go_sem] theorem XV:T22.arr=none:=eqk (by kernel_rfl)
@[go_sem] theorem G4:T22.zero=some (.slice none 0 0):=eqk (by kernel_rfl)
@[go_sem] theorem PX:eC T22=some (.sl none []):=eqk (by kernel_rfl)
@[go_sem] theorem I0:aD T22=some (.sl none []):=eqk (by kernel_rfl)
@[go_sem ↓] theorem ZO:(∃z,T22.zero=some z/\z.cells.size=T22.size)=True:=by
 refine eq_true ⟨_,G4,?_⟩
 kernel_rfl
noncomputable def T23:Ty:=(aw Tryz.prog 23).getD ⟨false,0,0,none,.bool⟩
@[go_sem] theorem acm:aw Tryz.prog 23=some T23:=eqk (by kernel_rfl)
@[go_sem] theorem XZ:T23.agg=false:=eqk (by kernel_rfl)
@[go_sem] theorem Sn:T23.size=1:=eqk (by kernel_rfl)
@[go_sem] theorem QN:T23.bytes=24:=eqk (by kernel_rfl)
@[go_sem] theorem TS:T23.want=none:=eqk (by kernel_rfl)
@[go_sem] theorem UZ:T23.desc=.slice 9:=eqk (by kernel_rfl)
@[go_sem] theorem WH:T23.arr=none:=eqk (by kernel_rfl)
@[go_sem] theorem EU:T23.zero=some (.slice none 0 0):=eqk (by kernel_rfl)
@[go_sem] theorem R3:eC T23=some (.sl none []):=eqk (by kernel_rfl)
@[go_sem] theorem Io:aD T23=some (.sl none []):=eqk (by kernel_rfl)
@[go_sem ↓] theorem ZE:(∃z,T23.zero=some z/\z.cells.size=T23.size)=True:=by
 refine eq_true ⟨_,EU,?_⟩
 kernel_rfl
noncomputable def T24:Ty:=(aw Tryz.prog 24).getD ⟨false,0,0,none,.bool⟩
@[go_sem] theorem aci:aw Tryz.prog 24=some T24:=eqk (by kernel_rfl)
@[go_sem] theorem XF:T24.agg=false:=eqk (by kernel_rfl)
@[go_sem] theorem TZ:T24.size=1:=eqk (by kernel_rfl)
@[go_sem] theorem Ov:T24.bytes=24:=eqk (by kernel_rfl)
@[go_sem] theorem Uc:T24.want=none:=eqk (by kernel_rfl)
@[go_sem] theorem UV:T24.desc=.slice 29:=eqk (by kernel_rfl)
@[go_sem] theorem Wp:T24.arr=none:=eqk (by kernel_rfl)
@[go_sem] theorem Gh:T24.zero=some (.slice none 0 0):=eqk (by kernel_rfl)
@[go_sem] theorem RN:eC T24=some (.sl none []):=eqk (by kernel_rfl)
@[go_sem] theorem I5:aD T24=some (.sl none []):=eqk (by kernel_rfl)
@[go_sem ↓] theorem ZS:(∃z,T24.zero=some z/\z.cells.size=T24.size)=True:=by
 refine eq_true ⟨_,Gh,?_⟩
 kernel_rfl
noncomputable def T26:Ty:=(aw Tryz.prog 26).getD ⟨false,0,0,none,.bool⟩
@[go_sem] theorem ack:aw Tryz.prog 26=some T26:=eqk (by kernel_rfl)
@[go_sem] theorem Xk:T26.agg=true:=eqk (by kernel_rfl)
@[go_sem] theorem Ti:T26.size=3:=eqk (by kernel_rfl)
@[go_sem] theorem PE:T26.bytes=72:=eqk (by kernel_rfl)
@[go_sem] theorem TC:T26.want=some 3:=eqk (by kernel_rfl)
@[go_sem] theorem WR:T26.arr=none:=eqk (by kernel_rfl)
@[go_sem] theorem N3:c8 Tryz.prog T26=some [(0,1),(1,1),(2,1)]:=eqk (by kernel_rfl)
@[go_sem] theorem Zz:aO Tryz.prog (some T26) 0=some (0,T22):=eqk (by kernel_rfl)
@[go_sem] theorem aa7:aO Tryz.prog (some T26) 1=some (1,T23):=eqk (by kernel_rfl)
@[go_sem] theorem Z2:aO Tryz.prog (some T26) 2=some (2,T24):=eqk (by kernel_rfl)
@[go_sem] theorem HL:T26.zero=some (.agg #[.slice none 0 0,.slice none 0 0,.slice none 0 0]):=eqk (by kernel_rfl)
@[go_sem] theorem Jf:aD T26=some (.agg [.sl none [],.sl none [],.sl none []]):=eqk (by kernel_rfl)
@[go_sem ↓] theorem aaj:(∃z,T26.zero=some z/\z.cells.size=T26.size)=True:=by
 refine eq_true ⟨_,HL,?_⟩
 kernel_rfl
noncomputable def T27:Ty:=(aw Tryz.prog 27).getD ⟨false,0,0,none,.bool⟩
@[go_sem] theorem ac2:aw Tryz.prog 27=some T27:=eqk (by kernel_rfl)
@[go_sem] theorem VT:T27.agg=false:=eqk (by kernel_rfl)
@[go_sem] theorem Tw:T27.size=1:=eqk (by kernel_rfl)
@[go_sem] theorem QM:T27.bytes=24:=eqk (by kernel_rfl)
@[go_sem] theorem U0:T27.want=none:=eqk (by kernel_rfl)
@[go_sem] theorem SR:T27.desc=.slice 46:=eqk (by kernel_rfl)
@[go_sem] theorem Wt:T27.arr=none:=eqk (by kernel_rfl)
@[go_sem] theorem GV:T27.zero=some (.slice none 0 0):=eqk (by kernel_rfl)
@[go_sem] theorem Pz:eC T27=some (.sl none []):=eqk (by kernel_rfl)
@[go_sem] theorem Jc:aD T27=some (.sl none []):=eqk (by kernel_rfl)
@[go_sem ↓] theorem Z6:(∃z,T27.zero=some z/\z.cells.size=T27.size)=True:=by
 refine eq_true ⟨_,GV,?_⟩
 kernel_rfl
noncomputable def T29:Ty:=(aw Tryz.prog 29).getD ⟨false,0,0,none,.bool⟩
@[go_sem] theorem acd:aw Tryz.prog 29=some T29:=eqk (by kernel_rfl)
@[go_sem] theorem WY:T29.agg=true:=eqk (by kernel_rfl)
@[go_sem] theorem Tu:T29.size=4:=eqk (by kernel_rfl)
@[go_sem] theorem Ow:T29.bytes=56:=eqk (by kernel_rfl)
@[go_sem] theorem TK:T29.want=some 4:=eqk (by kernel_rfl)
@[go_sem] theorem XT:T29.arr=none:=eqk (by kernel_rfl)
@[go_sem] theorem MR:c8 Tryz.prog T29=some [(0,1),(1,1),(2,1),(3,1)]:=eqk (by kernel_rfl)
@[go_sem] theorem ZY:aO Tryz.prog (some T29) 0=some (0,T9):=eqk (by kernel_rfl)
@[go_sem] theorem aah:aO Tryz.prog (some T29) 1=some (1,T3):=eqk (by kernel_rfl)
@[go_sem] theorem ZZ:aO Tryz.prog (some T29) 2=some (2,T4):=eqk (by kernel_rfl)
@[go_sem] theorem ZK:aO Tryz.prog (some T29) 3=some (3,T27):=eqk (by kernel_rfl)
@[go_sem] theorem Fd:T29.zero=some (.agg #[.string ⟨#[]⟩,.int .i64 0,.bool false,.slice none 0 0]):=eqk (by kernel_rfl)
@[go_sem] theorem Jo:aD T29=some (.agg [.str [],.int .i64 0,.bool false,.sl none []]):=eqk (by kernel_rfl)
@[go_sem ↓] theorem aa4:(∃z,T29.zero=some z/\z.cells.size=T29.size)=True:=by
 refine eq_true ⟨_,Fd,?_⟩
 kernel_rfl
noncomputable def T36:Ty:=(aw Tryz.prog 36).getD ⟨false,0,0,none,.bool⟩
@[go_sem] theorem ac1:aw Tryz.prog 36=some T36:=eqk (by kernel_rfl)
@[go_sem] theorem XA:T36.agg=false:=eqk (by kernel_rfl)
@[go_sem] theorem TE:T36.size=1:=eqk (by kernel_rfl)
@[go_sem] theorem Ok:T36.bytes=24:=eqk (by kernel_rfl)
@[go_sem] theorem Uq:T36.want=none:=eqk (by kernel_rfl)
@[go_sem] theorem Th:T36.desc=.slice 3:=eqk (by kernel_rfl)
@[go_sem] theorem Xr:T36.arr=none:=eqk (by kernel_rfl)
@[go_sem] theorem GC:T36.zero=some (.slice none 0 0):=eqk (by kernel_rfl)
@[go_sem] theorem QE:eC T36=some (.sl none []):=eqk (by kernel_rfl)
@[go_sem] theorem IU:aD T36=some (.sl none []):=eqk (by kernel_rfl)
@[go_sem ↓] theorem ZW:(∃z,T36.zero=some z/\z.cells.size=T36.size)=True:=by
 refine eq_true ⟨_,GC,?_⟩
 kernel_rfl
noncomputable def T38:Ty:=(aw Tryz.prog 38).getD ⟨false,0,0,none,.bool⟩
@[go_sem] theorem acn:aw Tryz.prog 38=some T38:=eqk (by kernel_rfl)
@[go_sem] theorem Xp:T38.agg=true:=eqk (by kernel_rfl)
@[go_sem] theorem UN:T38.size=1:=eqk (by kernel_rfl)
@[go_sem] theorem PN:T38.bytes=24:=eqk (by kernel_rfl)
@[go_sem] theorem U4:T38.want=some 1:=eqk (by kernel_rfl)
@[go_sem] theorem VY:T38.arr=none:=eqk (by kernel_rfl)
@[go_sem] theorem NQ:c8 Tryz.prog T38=some [(0,1)]:=eqk (by kernel_rfl)
@[go_sem] theorem aae:aO Tryz.prog (some T38) 0=some (0,T36):=eqk (by kernel_rfl)
@[go_sem] theorem ER:T38.zero=some (.agg #[.slice none 0 0]):=eqk (by kernel_rfl)
@[go_sem] theorem Jj:aD T38=some (.agg [.sl none []]):=eqk (by kernel_rfl)
@[go_sem ↓] theorem aaf:(∃z,T38.zero=some z/\z.cells.size=T38.size)=True:=by
 refine eq_true ⟨_,ER,?_⟩
 kernel_rfl
noncomputable def T44:Ty:=(aw Tryz.prog 44).getD ⟨false,0,0,none,.bool⟩
@[go_sem] theorem ac7:aw Tryz.prog 44=some T44:=eqk (by kernel_rfl)
@[go_sem] theorem X0:T44.agg=false:=eqk (by kernel_rfl)
@[go_sem] theorem Sv:T44.size=1:=eqk (by kernel_rfl)
@[go_sem] theorem Qg:T44.bytes=24:=eqk (by kernel_rfl)
@[go_sem] theorem UD:T44.want=none:=eqk (by kernel_rfl)
@[go_sem] theorem Tg:T44.desc=.slice 5:=eqk (by kernel_rfl)
@[go_sem] theorem W0:T44.arr=none:=eqk (by kernel_rfl)
@[go_sem] theorem FF:T44.zero=some (.slice none 0 0):=eqk (by kernel_rfl)
@[go_sem] theorem PV:eC T44=some (.sl none []):=eqk (by kernel_rfl)
@[go_sem] theorem Ih:aD T44=some (.sl none []):=eqk (by kernel_rfl)
@[go_sem ↓] theorem aac:(∃z,T44.zero=some z/\z.cells.size=T44.size)=True:=by
 refine eq_true ⟨_,FF,?_⟩
 kernel_rfl
noncomputable def T46:Ty:=(aw Tryz.prog 46).getD ⟨false,0,0,none,.bool⟩
@[go_sem] theorem acf:aw Tryz.prog 46=some T46:=eqk (by kernel_rfl)
@[go_sem] theorem XQ:T46.agg=true:=eqk (by kernel_rfl)
@[go_sem] theorem Uy:T46.size=4:=eqk (by kernel_rfl)
@[go_sem] theorem Ox:T46.bytes=32:=eqk (by kernel_rfl)
@[go_sem] theorem V7:T46.want=some 4:=eqk (by kernel_rfl)
@[go_sem] theorem Vp:T46.arr=none:=eqk (by kernel_rfl)
@[go_sem] theorem Nx:c8 Tryz.prog T46=some [(0,1),(1,1),(2,1),(3,1)]:=eqk (by kernel_rfl)
@[go_sem] theorem aa8:aO Tryz.prog (some T46) 0=some (0,T3):=eqk (by kernel_rfl)
@[go_sem] theorem Zq:aO Tryz.prog (some T46) 1=some (1,T3):=eqk (by kernel_rfl)
@[go_sem] theorem ZM:aO Tryz.prog (some T46) 2=some (2,T3):=eqk (by kernel_rfl)
@[go_sem] theorem Zg:aO Tryz.prog (some T46) 3=some (3,T4):=eqk (by kernel_rfl)
@[go_sem] theorem HN:T46.zero=some (.agg #[.int .i64 0,.int .i64 0,.int .i64 0,.bool false]):=eqk (by kernel_rfl)
@[go_sem] theorem Iq:aD T46=some (.agg [.int .i64 0,.int .i64 0,.int .i64 0,.bool false]):=eqk (by kernel_rfl)
@[go_sem ↓] theorem ZH:(∃z,T46.zero=some z/\z.cells.size=T46.size)=True:=by
 refine eq_true ⟨_,HN,?_⟩
 kernel_rfl
noncomputable def T50:Ty:=(aw Tryz.prog 50).getD ⟨false,0,0,none,.bool⟩
@[go_sem] theorem ach:aw Tryz.prog 50=some T50:=eqk (by kernel_rfl)
@[go_sem] theorem W9:T50.agg=true:=eqk (by kernel_rfl)
@[go_sem] theorem Uh:T50.size=2:=eqk (by kernel_rfl)
@[go_sem] theorem Q3:T50.bytes=32:=eqk (by kernel_rfl)
@[go_sem] theorem U6:T50.want=some 2:=eqk (by kernel_rfl)
@[go_sem] theorem VL:T50.arr=none:=eqk (by kernel_rfl)
@[go_sem] theorem aag:aO Tryz.prog (some T50) 1=some (1,T44):=eqk (by kernel_rfl)
noncomputable def T52:Ty:=(aw Tryz.prog 52).getD ⟨false,0,0,none,.bool⟩
@[go_sem] theorem ac3:aw Tryz.prog 52=some T52:=eqk (by kernel_rfl)
@[go_sem] theorem VE:T52.agg=true:=eqk (by kernel_rfl)
@[go_sem] theorem TJ:T52.size=3:=eqk (by kernel_rfl)
@[go_sem] theorem OD:T52.bytes=32:=eqk (by kernel_rfl)
@[go_sem] theorem Ts:T52.want=some 3:=eqk (by kernel_rfl)
@[go_sem] theorem Xa:T52.arr=none:=eqk (by kernel_rfl)
@[go_sem] theorem MQ:c8 Tryz.prog T52=some [(0,1),(1,1),(2,1)]:=eqk (by kernel_rfl)
@[go_sem] theorem aai:aO Tryz.prog (some T52) 0=some (0,T9):=eqk (by kernel_rfl)
@[go_sem] theorem aa3:aO Tryz.prog (some T52) 1=some (1,T3):=eqk (by kernel_rfl)
@[go_sem] theorem ZR:aO Tryz.prog (some T52) 2=some (2,T3):=eqk (by kernel_rfl)
@[go_sem] theorem FW:T52.zero=some (.agg #[.string ⟨#[]⟩,.int .i64 0,.int .i64 0]):=eqk (by kernel_rfl)
@[go_sem] theorem IC:aD T52=some (.agg [.str [],.int .i64 0,.int .i64 0]):=eqk (by kernel_rfl)
@[go_sem ↓] theorem ZX:(∃z,T52.zero=some z/\z.cells.size=T52.size)=True:=by
 refine eq_true ⟨_,FW,?_⟩
 kernel_rfl
noncomputable def T60:Ty:=(aw Tryz.prog 60).getD ⟨false,0,0,none,.bool⟩
@[go_sem] theorem aco:aw Tryz.prog 60=some T60:=eqk (by kernel_rfl)
@[go_sem] theorem Xo:T60.agg=false:=eqk (by kernel_rfl)
@[go_sem] theorem SZ:T60.size=1:=eqk (by kernel_rfl)
@[go_sem] theorem ON:T60.bytes=24:=eqk (by kernel_rfl)
@[go_sem] theorem Sm:T60.want=none:=eqk (by kernel_rfl)
@[go_sem] theorem TI:T60.desc=.slice 70:=eqk (by kernel_rfl)
@[go_sem] theorem We:T60.arr=none:=eqk (by kernel_rfl)
@[go_sem] theorem H0:T60.zero=some (.slice none 0 0):=eqk (by kernel_rfl)
@[go_sem] theorem Oo:eC T60=some (.sl none []):=eqk (by kernel_rfl)
@[go_sem] theorem Ix:aD T60=some (.sl none []):=eqk (by kernel_rfl)
@[go_sem ↓] theorem ZJ:(∃z,T60.zero=some z/\z.cells.size=T60.size)=True:=by
 refine eq_true ⟨_,H0,?_⟩
 kernel_rfl
noncomputable def T62:Ty:=(aw Tryz.prog 62).getD ⟨false,0,0,none,.bool⟩
@[go_sem] theorem acj:aw Tryz.prog 62=some T62:=eqk (by kernel_rfl)
@[go_sem] theorem VJ:T62.agg=true:=eqk (by kernel_rfl)
@[go_sem] theorem SF:T62.size=4:=eqk (by kernel_rfl)
@[go_sem] theorem Qc:T62.bytes=96:=eqk (by kernel_rfl)
@[go_sem] theorem Sb:T62.want=some 4:=eqk (by kernel_rfl)
@[go_sem] theorem VQ:T62.arr=none:=eqk (by kernel_rfl)
@[go_sem] theorem Nl:c8 Tryz.prog T62=some [(0,3),(3,1)]:=eqk (by kernel_rfl)
@[go_sem] theorem ZV:aO Tryz.prog (some T62) 0=some (0,T26):=eqk (by kernel_rfl)
@[go_sem] theorem Zb:aO Tryz.prog (some T62) 1=some (3,T60):=eqk (by kernel_rfl)
@[go_sem] theorem Fv:T62.zero=some (.agg #[.slice none 0 0,.slice none 0 0,.slice none 0 0,.slice none 0 0]):=eqk (by kernel_rfl)
@[go_sem] theorem HV:aD T62=some (.agg [.sl none [],.sl none [],.sl none [],.sl none []]):=eqk (by kernel_rfl)
@[go_sem ↓] theorem Z0:(∃z,T62.zero=some z/\z.cells.size=T62.size)=True:=by
 refine eq_true ⟨_,Fv,?_⟩
 kernel_rfl
noncomputable def T70:Ty:=(aw Tryz.prog 70).getD ⟨false,0,0,none,.bool⟩
@[go_sem] theorem ac9:aw Tryz.prog 70=some T70:=eqk (by kernel_rfl)
@[go_sem] theorem W2:T70.agg=true:=eqk (by kernel_rfl)
@[go_sem] theorem SV:T70.size=7:=eqk (by kernel_rfl)
@[go_sem] theorem P6:T70.bytes=64:=eqk (by kernel_rfl)
@[go_sem] theorem TF:T70.want=some 7:=eqk (by kernel_rfl)
@[go_sem] theorem VP:T70.arr=none:=eqk (by kernel_rfl)
@[go_sem] theorem Oa:c8 Tryz.prog T70=some [(0,1),(1,1),(2,1),(3,4)]:=eqk (by kernel_rfl)
@[go_sem] theorem aa9:aO Tryz.prog (some T70) 0=some (0,T3):=eqk (by kernel_rfl)
@[go_sem] theorem Zw:aO Tryz.prog (some T70) 1=some (1,T3):=eqk (by kernel_rfl)
@[go_sem] theorem ZT:aO Tryz.prog (some T70) 2=some (2,T9):=eqk (by kernel_rfl)
@[go_sem] theorem Zl:aO Tryz.prog (some T70) 3=some (3,T46):=eqk (by kernel_rfl)
@[go_sem] theorem F8:T70.zero=some (.agg #[.int .i64 0,.int .i64 0,.string ⟨#[]⟩,.int .i64 0,.int .i64 0,.int .i64 0,.bool false]):=eqk (by kernel_rfl)
@[go_sem] theorem HY:aD T70=some (.agg [.int .i64 0,.int .i64 0,.str [],.int .i64 0,.int .i64 0,.int .i64 0,.bool false]):=eqk (by kernel_rfl)
@[go_sem ↓] theorem ZC:(∃z,T70.zero=some z/\z.cells.size=T70.size)=True:=by
 refine eq_true ⟨_,F8,?_⟩
 kernel_rfl
noncomputable def T73:Ty:=(aw Tryz.prog 73).getD ⟨false,0,0,none,.bool⟩
@[go_sem] theorem acg:aw Tryz.prog 73=some T73:=eqk (by kernel_rfl)
@[go_sem] theorem Xc:T73.agg=false:=eqk (by kernel_rfl)
@[go_sem] theorem V4:T73.size=1:=eqk (by kernel_rfl)
@[go_sem] theorem OY:T73.bytes=24:=eqk (by kernel_rfl)
@[go_sem] theorem TD:T73.want=none:=eqk (by kernel_rfl)
@[go_sem] theorem UI:T73.desc=.slice 117:=eqk (by kernel_rfl)
@[go_sem] theorem Yf:T73.arr=none:=eqk (by kernel_rfl)
@[go_sem] theorem Fg:T73.zero=some (.slice none 0 0):=eqk (by kernel_rfl)
@[go_sem] theorem QD:eC T73=some (.sl none []):=eqk (by kernel_rfl)
@[go_sem] theorem Ik:aD T73=some (.sl none []):=eqk (by kernel_rfl)
@[go_sem ↓] theorem Ze:(∃z,T73.zero=some z/\z.cells.size=T73.size)=True:=by
 refine eq_true ⟨_,Fg,?_⟩
 kernel_rfl
noncomputable def T80:Ty:=(aw Tryz.prog 80).getD ⟨false,0,0,none,.bool⟩
@[go_sem] theorem aca:aw Tryz.prog 80=some T80:=eqk (by kernel_rfl)
@[go_sem] theorem XI:T80.agg=false:=eqk (by kernel_rfl)
@[go_sem] theorem UY:T80.size=1:=eqk (by kernel_rfl)
@[go_sem] theorem Ri:T80.bytes=24:=eqk (by kernel_rfl)
@[go_sem] theorem Sg:T80.want=none:=eqk (by kernel_rfl)
@[go_sem] theorem SN:T80.desc=.slice 124:=eqk (by kernel_rfl)
@[go_sem] theorem Y0:T80.arr=none:=eqk (by kernel_rfl)
@[go_sem] theorem EN:T80.zero=some (.slice none 0 0):=eqk (by kernel_rfl)
@[go_sem] theorem Qb:eC T80=some (.sl none []):=eqk (by kernel_rfl)
@[go_sem] theorem I7:aD T80=some (.sl none []):=eqk (by kernel_rfl)
@[go_sem ↓] theorem Zd:(∃z,T80.zero=some z/\z.cells.size=T80.size)=True:=by
 refine eq_true ⟨_,EN,?_⟩
 kernel_rfl
noncomputable def T82:Ty:=(aw Tryz.prog 82).getD ⟨false,0,0,none,.bool⟩
@[go_sem] theorem ac5:aw Tryz.prog 82=some T82:=eqk (by kernel_rfl)
@[go_sem] theorem XE:T82.agg=true:=eqk (by kernel_rfl)
@[go_sem] theorem UO:T82.size=1:=eqk (by kernel_rfl)
@[go_sem] theorem R1:T82.bytes=24:=eqk (by kernel_rfl)
@[go_sem] theorem Te:T82.want=some 1:=eqk (by kernel_rfl)
@[go_sem] theorem Wf:T82.arr=none:=eqk (by kernel_rfl)
@[go_sem] theorem Nd:c8 Tryz.prog T82=some [(0,1)]:=eqk (by kernel_rfl)
@[go_sem] theorem ZI:aO Tryz.prog (some T82) 0=some (0,T80):=eqk (by kernel_rfl)
@[go_sem] theorem GU:T82.zero=some (.agg #[.slice none 0 0]):=eqk (by kernel_rfl)
@[go_sem] theorem IR:aD T82=some (.agg [.sl none []]):=eqk (by kernel_rfl)
@[go_sem ↓] theorem Z1:(∃z,T82.zero=some z/\z.cells.size=T82.size)=True:=by
 refine eq_true ⟨_,GU,?_⟩
 kernel_rfl
noncomputable def T88:Ty:=(aw Tryz.prog 88).getD ⟨false,0,0,none,.bool⟩
@[go_sem] theorem ac0:aw Tryz.prog 88=some T88:=eqk (by kernel_rfl)
@[go_sem] theorem WC:T88.agg=false:=eqk (by kernel_rfl)
@[go_sem] theorem Tq:T88.size=1:=eqk (by kernel_rfl)
@[go_sem] theorem QO:T88.bytes=24:=eqk (by kernel_rfl)
@[go_sem] theorem So:T88.want=none:=eqk (by kernel_rfl)
@[go_sem] theorem UH:T88.desc=.slice 82:=eqk (by kernel_rfl)
@[go_sem] theorem Y9:T88.arr=none:=eqk (by kernel_rfl)
@[go_sem] theorem FB:T88.zero=some (.slice none 0 0):=eqk (by kernel_rfl)
@[go_sem] theorem PZ:eC T88=some (.sl none []):=eqk (by kernel_rfl)
@[go_sem] theorem Ig:aD T88=some (.sl none []):=eqk (by kernel_rfl)
@[go_sem ↓] theorem Zf:(∃z,T88.zero=some z/\z.cells.size=T88.size)=True:=by
 refine eq_true ⟨_,FB,?_⟩
 kernel_rfl
noncomputable def T89:Ty:=(aw Tryz.prog 89).getD ⟨false,0,0,none,.bool⟩
@[go_sem] theorem ac8:aw Tryz.prog 89=some T89:=eqk (by kernel_rfl)
@[go_sem] theorem XW:T89.agg=false:=eqk (by kernel_rfl)
@[go_sem] theorem Tj:T89.size=1:=eqk (by kernel_rfl)
@[go_sem] theorem R4:T89.bytes=24:=eqk (by kernel_rfl)
@[go_sem] theorem Va:T89.want=none:=eqk (by kernel_rfl)
@[go_sem] theorem SD:T89.desc=.slice 36:=eqk (by kernel_rfl)
@[go_sem] theorem Y1:T89.arr=none:=eqk (by kernel_rfl)
@[go_sem] theorem HF:T89.zero=some (.slice none 0 0):=eqk (by kernel_rfl)
@[go_sem] theorem Rw:eC T89=some (.sl none []):=eqk (by kernel_rfl)
@[go_sem] theorem Ja:aD T89=some (.sl none []):=eqk (by kernel_rfl)
@[go_sem ↓] theorem Zv:(∃z,T89.zero=some z/\z.cells.size=T89.size)=True:=by
 refine eq_true ⟨_,HF,?_⟩
 kernel_rfl
noncomputable def T91:Ty:=(aw Tryz.prog 91).getD ⟨false,0,0,none,.bool⟩
@[go_sem] theorem ac4:aw Tryz.prog 91=some T91:=eqk (by kernel_rfl)
@[go_sem] theorem Vk:T91.agg=true:=eqk (by kernel_rfl)
@[go_sem] theorem U1:T91.size=5:=eqk (by kernel_rfl)
@[go_sem] theorem OW:T91.bytes=120:=eqk (by kernel_rfl)
@[go_sem] theorem T1:T91.want=some 5:=eqk (by kernel_rfl)
@[go_sem] theorem VV:T91.arr=none:=eqk (by kernel_rfl)
@[go_sem] theorem NO:c8 Tryz.prog T91=some [(0,1),(1,1),(2,1),(3,1),(4,1)]:=eqk (by kernel_rfl)
@[go_sem] theorem ZG:aO Tryz.prog (some T91) 0=some (0,T88):=eqk (by kernel_rfl)
@[go_sem] theorem Z7:aO Tryz.prog (some T91) 1=some (1,T89):=eqk (by kernel_rfl)
@[go_sem] theorem Zj:aO Tryz.prog (some T91) 2=some (2,T89):=eqk (by kernel_rfl)
@[go_sem] theorem Zy:aO Tryz.prog (some T91) 3=some (3,T36):=eqk (by kernel_rfl)
@[go_sem] theorem ZB:aO Tryz.prog (some T91) 4=some (4,T36):=eqk (by kernel_rfl)
@[go_sem] theorem ET:T91.zero=some (.agg #[.slice none 0 0,.slice none 0 0,.slice none 0 0,.slice none 0 0,.slice none 0 0]):=eqk (by kernel_rfl)
@[go_sem] theorem I2:aD T91=some (.agg [.sl none [],.sl none [],.sl none [],.sl none [],.sl none []]):=eqk (by kernel_rfl)
@[go_sem ↓] theorem Zh:(∃z,T91.zero=some z/\z.cells.size=T91.size)=True:=by
 refine eq_true ⟨_,ET,?_⟩
 kernel_rfl
noncomputable def T93:Ty:=(aw Tryz.prog 93).getD ⟨false,0,0,none,.bool⟩
@[go_sem] theorem acl:aw Tryz.prog 93=some T93:=eqk (by kernel_rfl)
@[go_sem] theorem Xs:T93.agg=false:=eqk (by kernel_rfl)
@[go_sem] theorem Uf:T93.size=1:=eqk (by kernel_rfl)
@[go_sem] theorem Ry:T93.bytes=24:=eqk (by kernel_rfl)
@[go_sem] theorem Sd:T93.want=none:=eqk (by kernel_rfl)
@[go_sem] theorem Sw:T93.desc=.slice 4:=eqk (by kernel_rfl)
@[go_sem] theorem Xj:T93.arr=none:=eqk (by kernel_rfl)
@[go_sem] theorem Gq:T93.zero=some (.slice none 0 0):=eqk (by kernel_rfl)
@[go_sem] theorem R9:eC T93=some (.sl none []):=eqk (by kernel_rfl)
@[go_sem] theorem IQ:aD T93=some (.sl none []):=eqk (by kernel_rfl)
@[go_sem ↓] theorem Zk:(∃z,T93.zero=some z/\z.cells.size=T93.size)=True:=by
 refine eq_true ⟨_,Gq,?_⟩
 kernel_rfl
noncomputable def T111:Ty:=(aw Tryz.prog 111).getD ⟨false,0,0,none,.bool⟩
@[go_sem] theorem aaZ:aw Tryz.prog 111=some T111:=eqk (by kernel_rfl)
@[go_sem] theorem SO:T111.agg=false:=eqk (by kernel_rfl)
@[go_sem] theorem Qt:T111.size=1:=eqk (by kernel_rfl)
@[go_sem] theorem N8:T111.bytes=8:=eqk (by kernel_rfl)
@[go_sem] theorem OB:T111.want=none:=eqk (by kernel_rfl)
@[go_sem] theorem Rq:T111.desc=.map 115 4:=eqk (by kernel_rfl)
@[go_sem] theorem Sl:T111.arr=none:=eqk (by kernel_rfl)
@[go_sem] theorem Bi:T111.zero=some (.map none):=eqk (by kernel_rfl)
@[go_sem ↓] theorem VK:(∃z,T111.zero=some z/\z.cells.size=T111.size)=True:=by
 refine eq_true ⟨_,Bi,?_⟩
 kernel_rfl
noncomputable def T115:Ty:=(aw Tryz.prog 115).getD ⟨false,0,0,none,.bool⟩
@[go_sem] theorem aaR:aw Tryz.prog 115=some T115:=eqk (by kernel_rfl)
@[go_sem] theorem S9:T115.agg=true:=eqk (by kernel_rfl)
@[go_sem] theorem Rz:T115.size=2:=eqk (by kernel_rfl)
@[go_sem] theorem O8:T115.bytes=16:=eqk (by kernel_rfl)
@[go_sem] theorem Q7:T115.want=some 2:=eqk (by kernel_rfl)
@[go_sem] theorem Qk:T115.desc=.array 2 3:=eqk (by kernel_rfl)
@[go_sem] theorem Tp:T115.arr=some (2,3):=eqk (by kernel_rfl)
@[go_sem] theorem My:c8 Tryz.prog T115=some [(0,1),(1,1)]:=eqk (by kernel_rfl)
@[go_sem] theorem BN:T115.zero=some (.agg #[.int .i64 0,.int .i64 0]):=eqk (by kernel_rfl)
@[go_sem] theorem GF:aD T115=some (.agg [.int .i64 0,.int .i64 0]):=eqk (by kernel_rfl)
@[go_sem ↓] theorem Y8:(∃z,T115.zero=some z/\z.cells.size=T115.size)=True:=by
 refine eq_true ⟨_,BN,?_⟩
 kernel_rfl
noncomputable def T117:Ty:=(aw Tryz.prog 117).getD ⟨false,0,0,none,.bool⟩
@[go_sem] theorem aaL:aw Tryz.prog 117=some T117:=eqk (by kernel_rfl)
@[go_sem] theorem UW:T117.agg=true:=eqk (by kernel_rfl)
@[go_sem] theorem RE:T117.size=4:=eqk (by kernel_rfl)
@[go_sem] theorem Nc:T117.bytes=32:=eqk (by kernel_rfl)
@[go_sem] theorem RA:T117.want=some 4:=eqk (by kernel_rfl)
@[go_sem] theorem SU:T117.arr=none:=eqk (by kernel_rfl)
@[go_sem] theorem KK:c8 Tryz.prog T117=some [(0,1),(1,1),(2,1),(3,1)]:=eqk (by kernel_rfl)
@[go_sem] theorem Ws:aO Tryz.prog (some T117) 0=some (0,T3):=eqk (by kernel_rfl)
@[go_sem] theorem Yn:aO Tryz.prog (some T117) 1=some (1,T3):=eqk (by kernel_rfl)
@[go_sem] theorem WL:aO Tryz.prog (some T117) 2=some (2,T3):=eqk (by kernel_rfl)
@[go_sem] theorem Wb:aO Tryz.prog (some T117) 3=some (3,T3):=eqk (by kernel_rfl)
@[go_sem] theorem D9:T117.zero=some (.agg #[.int .i64 0,.int .i64 0,.int .i64 0,.int .i64 0]):=eqk (by kernel_rfl)
@[go_sem] theorem GH:aD T117=some (.agg [.int .i64 0,.int .i64 0,.int .i64 0,.int .i64 0]):=eqk (by kernel_rfl)
@[go_sem ↓] theorem Y4:(∃z,T117.zero=some z/\z.cells.size=T117.size)=True:=by
 refine eq_true ⟨_,D9,?_⟩
 kernel_rfl
noncomputable def T123:Ty:=(aw Tryz.prog 123).getD ⟨false,0,0,none,.bool⟩
@[go_sem] theorem aaF:aw Tryz.prog 123=some T123:=eqk (by kernel_rfl)
@[go_sem] theorem TW:T123.agg=true:=eqk (by kernel_rfl)
@[go_sem] theorem QW:T123.size=2:=eqk (by kernel_rfl)
@[go_sem] theorem NX:T123.bytes=16:=eqk (by kernel_rfl)
@[go_sem] theorem P5:T123.want=some 2:=eqk (by kernel_rfl)
@[go_sem] theorem UE:T123.arr=none:=eqk (by kernel_rfl)
@[go_sem] theorem JQ:c8 Tryz.prog T123=some [(0,1),(1,1)]:=eqk (by kernel_rfl)
@[go_sem] theorem Vx:aO Tryz.prog (some T123) 0=some (0,T3):=eqk (by kernel_rfl)
@[go_sem] theorem Vs:aO Tryz.prog (some T123) 1=some (1,T3):=eqk (by kernel_rfl)
@[go_sem] theorem CE:T123.zero=some (.agg #[.int .i64 0,.int .i64 0]):=eqk (by kernel_rfl)
@[go_sem] theorem Gv:aD T123=some (.agg [.int .i64 0,.int .i64 0]):=eqk (by kernel_rfl)
@[go_sem ↓] theorem W1:(∃z,T123.zero=some z/\z.cells.size=T123.size)=True:=by
 refine eq_true ⟨_,CE,?_⟩
 kernel_rfl
noncomputable def T124:Ty:=(aw Tryz.prog 124).getD ⟨false,0,0,none,.bool⟩
@[go_sem] theorem aaK:aw Tryz.prog 124=some T124:=eqk (by kernel_rfl)
@[go_sem] theorem Uj:T124.agg=false:=eqk (by kernel_rfl)
@[go_sem] theorem Qh:T124.size=1:=eqk (by kernel_rfl)
@[go_sem] theorem N0:T124.bytes=24:=eqk (by kernel_rfl)
@[go_sem] theorem PS:T124.want=none:=eqk (by kernel_rfl)
@[go_sem] theorem PC:T124.desc=.slice 123:=eqk (by kernel_rfl)
@[go_sem] theorem Sa:T124.arr=none:=eqk (by kernel_rfl)
@[go_sem] theorem DD:T124.zero=some (.slice none 0 0):=eqk (by kernel_rfl)
@[go_sem] theorem O3:eC T124=some (.sl none []):=eqk (by kernel_rfl)
@[go_sem] theorem Ge:aD T124=some (.sl none []):=eqk (by kernel_rfl)
@[go_sem ↓] theorem WE:(∃z,T124.zero=some z/\z.cells.size=T124.size)=True:=by
 refine eq_true ⟨_,DD,?_⟩
 kernel_rfl
noncomputable def T126:Ty:=(aw Tryz.prog 126).getD ⟨false,0,0,none,.bool⟩
@[go_sem] theorem aaD:aw Tryz.prog 126=some T126:=eqk (by kernel_rfl)
@[go_sem] theorem UX:T126.agg=false:=eqk (by kernel_rfl)
@[go_sem] theorem OE:T126.size=1:=eqk (by kernel_rfl)
@[go_sem] theorem Nf:T126.bytes=8:=eqk (by kernel_rfl)
@[go_sem] theorem QV:T126.want=none:=eqk (by kernel_rfl)
@[go_sem] theorem Qx:T126.desc=.map 9 3:=eqk (by kernel_rfl)
@[go_sem] theorem SM:T126.arr=none:=eqk (by kernel_rfl)
@[go_sem] theorem BC:T126.zero=some (.map none):=eqk (by kernel_rfl)
@[go_sem ↓] theorem Wc:(∃z,T126.zero=some z/\z.cells.size=T126.size)=True:=by
 refine eq_true ⟨_,BC,?_⟩
 kernel_rfl
noncomputable def T132:Ty:=(aw Tryz.prog 132).getD ⟨false,0,0,none,.bool⟩
@[go_sem] theorem aaT:aw Tryz.prog 132=some T132:=eqk (by kernel_rfl)
@[go_sem] theorem V2:T132.agg=true:=eqk (by kernel_rfl)
@[go_sem] theorem Q1:T132.size=2:=eqk (by kernel_rfl)
@[go_sem] theorem MV:T132.bytes=48:=eqk (by kernel_rfl)
@[go_sem] theorem PG:T132.want=some 2:=eqk (by kernel_rfl)
@[go_sem] theorem SB:T132.arr=none:=eqk (by kernel_rfl)
@[go_sem] theorem Mo:c8 Tryz.prog T132=some [(0,1),(1,1)]:=eqk (by kernel_rfl)
@[go_sem] theorem Y3:aO Tryz.prog (some T132) 0=some (0,T36):=eqk (by kernel_rfl)
@[go_sem] theorem XG:aO Tryz.prog (some T132) 1=some (1,T93):=eqk (by kernel_rfl)
@[go_sem] theorem DK:T132.zero=some (.agg #[.slice none 0 0,.slice none 0 0]):=eqk (by kernel_rfl)
@[go_sem] theorem Gt:aD T132=some (.agg [.sl none [],.sl none []]):=eqk (by kernel_rfl)
@[go_sem ↓] theorem Xz:(∃z,T132.zero=some z/\z.cells.size=T132.size)=True:=by
 refine eq_true ⟨_,DK,?_⟩
 kernel_rfl
noncomputable def T150:Ty:=(aw Tryz.prog 150).getD ⟨false,0,0,none,.bool⟩
@[go_sem] theorem aaM:aw Tryz.prog 150=some T150:=eqk (by kernel_rfl)
@[go_sem] theorem Tv:T150.agg=true:=eqk (by kernel_rfl)
@[go_sem] theorem Qn:T150.size=3:=eqk (by kernel_rfl)
@[go_sem] theorem MJ:T150.bytes=72:=eqk (by kernel_rfl)
@[go_sem] theorem OT:T150.want=some 3:=eqk (by kernel_rfl)
@[go_sem] theorem V3:T150.arr=none:=eqk (by kernel_rfl)
@[go_sem] theorem KO:c8 Tryz.prog T150=some [(0,1),(1,1),(2,1)]:=eqk (by kernel_rfl)
@[go_sem] theorem XO:aO Tryz.prog (some T150) 0=some (0,T36):=eqk (by kernel_rfl)
@[go_sem] theorem Y2:aO Tryz.prog (some T150) 1=some (1,T36):=eqk (by kernel_rfl)
@[go_sem] theorem Xl:aO Tryz.prog (some T150) 2=some (2,T36):=eqk (by kernel_rfl)
@[go_sem] theorem Dk:T150.zero=some (.agg #[.slice none 0 0,.slice none 0 0,.slice none 0 0]):=eqk (by kernel_rfl)
@[go_sem] theorem G1:aD T150=some (.agg [.sl none [],.sl none [],.sl none []]):=eqk (by kernel_rfl)
@[go_sem ↓] theorem WP:(∃z,T150.zero=some z/\z.cells.size=T150.size)=True:=by
 refine eq_true ⟨_,Dk,?_⟩
 kernel_rfl
noncomputable def T160:Ty:=(aw Tryz.prog 160).getD ⟨false,0,0,none,.bool⟩
@[go_sem] theorem ab3:aw Tryz.prog 160=some T160:=eqk (by kernel_rfl)
@[go_sem] theorem Tl:T160.agg=true:=eqk (by kernel_rfl)
@[go_sem] theorem OI:T160.size=24:=eqk (by kernel_rfl)
@[go_sem] theorem Nq:T160.bytes=24:=eqk (by kernel_rfl)
@[go_sem] theorem OQ:T160.want=some 24:=eqk (by kernel_rfl)
@[go_sem] theorem PD:T160.desc=.array 24 5:=eqk (by kernel_rfl)
@[go_sem] theorem SJ:T160.arr=some (24,5):=eqk (by kernel_rfl)
@[go_sem] theorem CA:T160.zero=some (.agg #[.int .u8 0,.int .u8 0,.int .u8 0,.int .u8 0,.int .u8 0,.int .u8 0,.int .u8 0,.int .u8 0,.int .u8 0,.int .u8 0,.int .u8 0,.int .u8 0,.int .u8 0,.int .u8 0,.int .u8 0,.int .u8 0,.int .u8 0,.int .u8 0,.int .u8 0,.int .u8 0,.int .u8 0,.int .u8 0,.int .u8 0,.int .u8 0]):=eqk (by kernel_rfl)
@[go_sem] theorem Fo:aD T160=some (.agg [.int .u8 0,.int .u8 0,.int .u8 0,.int .u8 0,.int .u8 0,.int .u8 0,.int .u8 0,.int .u8 0,.int .u8 0,.int .u8 0,.int .u8 0,.int .u8 0,.int .u8 0,.int .u8 0,.int .u8 0,.int .u8 0,.int .u8 0,.int .u8 0,.int .u8 0,.int .u8 0,.int .u8 0,.int .u8 0,.int .u8 0,.int .u8 0]):=eqk (by kernel_rfl)
@[go_sem ↓] theorem Vm:(∃z,T160.zero=some z/\z.cells.size=T160.size)=True:=by
 refine eq_true ⟨_,CA,?_⟩
 kernel_rfl
noncomputable def T161:Ty:=(aw Tryz.prog 161).getD ⟨false,0,0,none,.bool⟩
@[go_sem] theorem aaB:aw Tryz.prog 161=some T161:=eqk (by kernel_rfl)
@[go_sem] theorem SC:T161.agg=false:=eqk (by kernel_rfl)
@[go_sem] theorem Qf:T161.size=1:=eqk (by kernel_rfl)
@[go_sem] theorem Nv:T161.bytes=8:=eqk (by kernel_rfl)
@[go_sem] theorem Qq:T161.want=none:=eqk (by kernel_rfl)
@[go_sem] theorem RL:T161.desc=.int .u64:=eqk (by kernel_rfl)
@[go_sem] theorem Ta:T161.arr=none:=eqk (by kernel_rfl)
@[go_sem] theorem C2:T161.zero=some (.int .u64 0):=eqk (by kernel_rfl)
@[go_sem] theorem NN:eC T161=some (.int .u64 0):=eqk (by kernel_rfl)
@[go_sem] theorem F5:aD T161=some (.int .u64 0):=eqk (by kernel_rfl)
@[go_sem ↓] theorem Vu:(∃z,T161.zero=some z/\z.cells.size=T161.size)=True:=by
 refine eq_true ⟨_,C2,?_⟩
 kernel_rfl
noncomputable def T170:Ty:=(aw Tryz.prog 170).getD ⟨false,0,0,none,.bool⟩
@[go_sem] theorem aaX:aw Tryz.prog 170=some T170:=eqk (by kernel_rfl)
@[go_sem] theorem Uk:T170.agg=true:=eqk (by kernel_rfl)
@[go_sem] theorem Rf:T170.size=20:=eqk (by kernel_rfl)
@[go_sem] theorem MZ:T170.bytes=160:=eqk (by kernel_rfl)
@[go_sem] theorem QS:T170.want=some 20:=eqk (by kernel_rfl)
@[go_sem] theorem Qr:T170.desc=.array 20 161:=eqk (by kernel_rfl)
@[go_sem] theorem Sh:T170.arr=some (20,161):=eqk (by kernel_rfl)
@[go_sem] theorem Dg:T170.zero=some (.agg #[.int .u64 0,.int .u64 0,.int .u64 0,.int .u64 0,.int .u64 0,.int .u64 0,.int .u64 0,.int .u64 0,.int .u64 0,.int .u64 0,.int .u64 0,.int .u64 0,.int .u64 0,.int .u64 0,.int .u64 0,.int .u64 0,.int .u64 0,.int .u64 0,.int .u64 0,.int .u64 0]):=eqk (by kernel_rfl)
@[go_sem] theorem HJ:aD T170=some (.agg [.int .u64 0,.int .u64 0,.int .u64 0,.int .u64 0,.int .u64 0,.int .u64 0,.int .u64 0,.int .u64 0,.int .u64 0,.int .u64 0,.int .u64 0,.int .u64 0,.int .u64 0,.int .u64 0,.int .u64 0,.int .u64 0,.int .u64 0,.int .u64 0,.int .u64 0,.int .u64 0]):=eqk (by kernel_rfl)
@[go_sem ↓] theorem Xw:(∃z,T170.zero=some z/\z.cells.size=T170.size)=True:=by
 refine eq_true ⟨_,Dg,?_⟩
 kernel_rfl
noncomputable def T171:Ty:=(aw Tryz.prog 171).getD ⟨false,0,0,none,.bool⟩
@[go_sem] theorem aaP:aw Tryz.prog 171=some T171:=eqk (by kernel_rfl)
@[go_sem] theorem UU:T171.agg=false:=eqk (by kernel_rfl)
@[go_sem] theorem Oq:T171.size=1:=eqk (by kernel_rfl)
@[go_sem] theorem MY:T171.bytes=4:=eqk (by kernel_rfl)
@[go_sem] theorem Rc:T171.want=none:=eqk (by kernel_rfl)
@[go_sem] theorem P0:T171.desc=.int .u32:=eqk (by kernel_rfl)
@[go_sem] theorem SA:T171.arr=none:=eqk (by kernel_rfl)
@[go_sem] theorem Bs:T171.zero=some (.int .u32 0):=eqk (by kernel_rfl)
@[go_sem] theorem Nt:eC T171=some (.int .u32 0):=eqk (by kernel_rfl)
@[go_sem] theorem FH:aD T171=some (.int .u32 0):=eqk (by kernel_rfl)
@[go_sem ↓] theorem XB:(∃z,T171.zero=some z/\z.cells.size=T171.size)=True:=by
 refine eq_true ⟨_,Bs,?_⟩
 kernel_rfl
noncomputable def T172:Ty:=(aw Tryz.prog 172).getD ⟨false,0,0,none,.bool⟩
@[go_sem] theorem aaE:aw Tryz.prog 172=some T172:=eqk (by kernel_rfl)
@[go_sem] theorem V1:T172.agg=true:=eqk (by kernel_rfl)
@[go_sem] theorem RF:T172.size=65:=eqk (by kernel_rfl)
@[go_sem] theorem Nj:T172.bytes=65:=eqk (by kernel_rfl)
@[go_sem] theorem Pj:T172.want=some 65:=eqk (by kernel_rfl)
@[go_sem] theorem RH:T172.desc=.array 65 5:=eqk (by kernel_rfl)
@[go_sem] theorem Uu:T172.arr=some (65,5):=eqk (by kernel_rfl)
@[go_sem] theorem Qa:T172.zero=some (.agg (Array.replicate 65 (.int .u8 0))):=eqk (by kernel_rfl)
noncomputable def T175:Ty:=(aw Tryz.prog 175).getD ⟨false,0,0,none,.bool⟩
@[go_sem] theorem ab0:aw Tryz.prog 175=some T175:=eqk (by kernel_rfl)
@[go_sem] theorem Us:T175.agg=true:=eqk (by kernel_rfl)
@[go_sem] theorem PO:T175.size=256:=eqk (by kernel_rfl)
@[go_sem] theorem Np:T175.bytes=256:=eqk (by kernel_rfl)
@[go_sem] theorem Og:T175.want=some 256:=eqk (by kernel_rfl)
@[go_sem] theorem Qd:T175.desc=.array 256 5:=eqk (by kernel_rfl)
@[go_sem] theorem UA:T175.arr=some (256,5):=eqk (by kernel_rfl)
@[go_sem] theorem RG:T175.zero=some (.agg (Array.replicate 256 (.int .u8 0))):=eqk (by kernel_rfl)
noncomputable def T178:Ty:=(aw Tryz.prog 178).getD ⟨false,0,0,none,.bool⟩
@[go_sem] theorem ab4:aw Tryz.prog 178=some T178:=eqk (by kernel_rfl)
@[go_sem] theorem Tc:T178.agg=true:=eqk (by kernel_rfl)
@[go_sem] theorem Oz:T178.size=32:=eqk (by kernel_rfl)
@[go_sem] theorem NY:T178.bytes=32:=eqk (by kernel_rfl)
@[go_sem] theorem RK:T178.want=some 32:=eqk (by kernel_rfl)
@[go_sem] theorem Po:T178.desc=.array 16 177:=eqk (by kernel_rfl)
@[go_sem] theorem Sz:T178.arr=none:=eqk (by kernel_rfl)
@[go_sem] theorem BY:T178.zero=some (.agg #[.int .u8 0,.int .u8 0,.int .u8 0,.int .u8 0,.int .u8 0,.int .u8 0,.int .u8 0,.int .u8 0,.int .u8 0,.int .u8 0,.int .u8 0,.int .u8 0,.int .u8 0,.int .u8 0,.int .u8 0,.int .u8 0,.int .u8 0,.int .u8 0,.int .u8 0,.int .u8 0,.int .u8 0,.int .u8 0,.int .u8 0,.int .u8 0,.int .u8 0,.int .u8 0,.int .u8 0,.int .u8 0,.int .u8 0,.int .u8 0,.int .u8 0,.int .u8 0]):=eqk (by kernel_rfl)
@[go_sem] theorem F9:aD T178=some (.agg [.int .u8 0,.int .u8 0,.int .u8 0,.int .u8 0,.int .u8 0,.int .u8 0,.int .u8 0,.int .u8 0,.int .u8 0,.int .u8 0,.int .u8 0,.int .u8 0,.int .u8 0,.int .u8 0,.int .u8 0,.int .u8 0,.int .u8 0,.int .u8 0,.int .u8 0,.int .u8 0,.int .u8 0,.int .u8 0,.int .u8 0,.int .u8 0,.int .u8 0,.int .u8 0,.int .u8 0,.int .u8 0,.int .u8 0,.int .u8 0,.int .u8 0,.int .u8 0]):=eqk (by kernel_rfl)
@[go_sem ↓] theorem VX:(∃z,T178.zero=some z/\z.cells.size=T178.size)=True:=by
 refine eq_true ⟨_,BY,?_⟩
 kernel_rfl
noncomputable def T183:Ty:=(aw Tryz.prog 183).getD ⟨false,0,0,none,.bool⟩
@[go_sem] theorem aaY:aw Tryz.prog 183=some T183:=eqk (by kernel_rfl)
@[go_sem] theorem SQ:T183.agg=true:=eqk (by kernel_rfl)
@[go_sem] theorem Qu:T183.size=32:=eqk (by kernel_rfl)
@[go_sem] theorem N7:T183.bytes=32:=eqk (by kernel_rfl)
@[go_sem] theorem PF:T183.want=some 32:=eqk (by kernel_rfl)
@[go_sem] theorem RC:T183.desc=.array 32 5:=eqk (by kernel_rfl)
@[go_sem] theorem Uv:T183.arr=some (32,5):=eqk (by kernel_rfl)
@[go_sem] theorem Bk:T183.zero=some (.agg #[.int .u8 0,.int .u8 0,.int .u8 0,.int .u8 0,.int .u8 0,.int .u8 0,.int .u8 0,.int .u8 0,.int .u8 0,.int .u8 0,.int .u8 0,.int .u8 0,.int .u8 0,.int .u8 0,.int .u8 0,.int .u8 0,.int .u8 0,.int .u8 0,.int .u8 0,.int .u8 0,.int .u8 0,.int .u8 0,.int .u8 0,.int .u8 0,.int .u8 0,.int .u8 0,.int .u8 0,.int .u8 0,.int .u8 0,.int .u8 0,.int .u8 0,.int .u8 0]):=eqk (by kernel_rfl)
@[go_sem] theorem HM:aD T183=some (.agg [.int .u8 0,.int .u8 0,.int .u8 0,.int .u8 0,.int .u8 0,.int .u8 0,.int .u8 0,.int .u8 0,.int .u8 0,.int .u8 0,.int .u8 0,.int .u8 0,.int .u8 0,.int .u8 0,.int .u8 0,.int .u8 0,.int .u8 0,.int .u8 0,.int .u8 0,.int .u8 0,.int .u8 0,.int .u8 0,.int .u8 0,.int .u8 0,.int .u8 0,.int .u8 0,.int .u8 0,.int .u8 0,.int .u8 0,.int .u8 0,.int .u8 0,.int .u8 0]):=eqk (by kernel_rfl)
@[go_sem ↓] theorem Xq:(∃z,T183.zero=some z/\z.cells.size=T183.size)=True:=by
 refine eq_true ⟨_,Bk,?_⟩
 kernel_rfl
noncomputable def T184:Ty:=(aw Tryz.prog 184).getD ⟨false,0,0,none,.bool⟩
@[go_sem] theorem aaH:aw Tryz.prog 184=some T184:=eqk (by kernel_rfl)
@[go_sem] theorem SS:T184.agg=true:=eqk (by kernel_rfl)
@[go_sem] theorem R5:T184.size=64:=eqk (by kernel_rfl)
@[go_sem] theorem Ns:T184.bytes=64:=eqk (by kernel_rfl)
@[go_sem] theorem Ql:T184.want=some 64:=eqk (by kernel_rfl)
@[go_sem] theorem PY:T184.desc=.array 64 5:=eqk (by kernel_rfl)
@[go_sem] theorem TM:T184.arr=some (64,5):=eqk (by kernel_rfl)
@[go_sem] theorem Rr:T184.zero=some (.agg (Array.replicate 64 (.int .u8 0))):=eqk (by kernel_rfl)
noncomputable def T187:Ty:=(aw Tryz.prog 187).getD ⟨false,0,0,none,.bool⟩
@[go_sem] theorem aaS:aw Tryz.prog 187=some T187:=eqk (by kernel_rfl)
@[go_sem] theorem UQ:T187.agg=true:=eqk (by kernel_rfl)
@[go_sem] theorem Qz:T187.size=0:=eqk (by kernel_rfl)
@[go_sem] theorem Ny:T187.bytes=0:=eqk (by kernel_rfl)
@[go_sem] theorem PA:T187.want=some 0:=eqk (by kernel_rfl)
@[go_sem] theorem Q6:T187.desc=.array 0 16:=eqk (by kernel_rfl)
@[go_sem] theorem To:T187.arr=some (0,16):=eqk (by kernel_rfl)
@[go_sem] theorem Cx:T187.zero=some (.agg #[]):=eqk (by kernel_rfl)
@[go_sem] theorem Ho:aD T187=some (.agg []):=eqk (by kernel_rfl)
@[go_sem ↓] theorem Wq:(∃z,T187.zero=some z/\z.cells.size=T187.size)=True:=by
 refine eq_true ⟨_,Cx,?_⟩
 kernel_rfl
theorem mixed:Tryz.prog.follows .mixedOrders=true:=by kernel_rfl
theorem fQ{Γ:Nat->a8}:bF Γ []:=fun g _ _ _ _ _ h=>by rcases h with h|h <;> cases h
theorem b0{Γ:Nat->a8}:aQ Γ []:=fun g _ _ _ _ _ h=>by cases h
theorem s5{l:List (Nat×a8)}{pf:List Nat}(h:∀g C,(g,C)∈l->g∈pf->∃R,C=au R):aQ (tbl l) pf:=by
 rintro g args own v own' mv hg ⟨C,hm,hC⟩
 obtain⟨R,rfl⟩:=h g C hm hg
 obtain⟨_,_,_,h1,h2,_⟩:=hC
 exact⟨h1,h2⟩
abbrev Str:=List UInt8
structure PPool where
 name:Str
 size:Int
 res:Int
deriving Inhabited,DecidableEq
structure PStep where
 kind:Int
 on:Int
 cnt:Int
 deep:Bool
deriving Inhabited,DecidableEq
structure PCls where
 name:Str
 workers:Int
 server:Bool
 steps:List PStep
deriving Inhabited,DecidableEq
structure PSys where
 pools:List PPool
 locks:List Str
 classes:List PCls
deriving Inhabited,DecidableEq
abbrev aA(u:List Int):List D:=u.map (.int .i64)
abbrev b6(b:List Bool):List D:=b.map .bool
def aK(p:PPool):D:=.agg [.str p.name,.int .i64 p.size,.int .i64 p.res]
def ar(s:PStep):D:=.agg [.int .i64 s.kind,.int .i64 s.on,.int .i64 s.cnt,.bool s.deep]
def bD(l:List PStep):D:=.sl (some 4) (l.map ar)
def bf(c:PCls):D:=.agg [.str c.name,.int .i64 c.workers,.bool c.server,bD c.steps]
def aY(s:PSys):D:=.agg [.sl (some 3) (s.pools.map aK),.sl none (s.locks.map .str),.sl (some 4) (s.classes.map bf)]
def PStep.ok(s:PStep):Prop:=inR .i64 s.kind/\inR .i64 s.on/\inR .i64 s.cnt
def PPool.ok(p:PPool):Prop:=inR .i64 p.size/\inR .i64 p.res
def PCls.ok(c:PCls):Prop:=inR .i64 c.workers/\(∀s∈c.steps,s.ok)/\c.steps.length<4611686018427387904
structure PSys.ok (s:PSys):Prop where
 pools:∀p∈s.pools,p.ok
 classes:∀c∈s.classes,c.ok
 np:s.pools.length<4611686018427387904
 nl:s.locks.length<4611686018427387904
 nc:s.classes.length<4611686018427387904
theorem Q0:jV Tryz.prog 52=some 3:=by kernel_rfl
theorem XM:jV Tryz.prog 9=none:=by kernel_rfl
theorem PH:jV Tryz.prog 29=some 4:=by kernel_rfl
theorem Ps:jV Tryz.prog 46=some 4:=by kernel_rfl
theorem Hb{m:Nat}{d:D}(h:Ev Tryz.prog (m+3) 52 d):∃p:PPool,d=aK p/\True:=by
 obtain⟨ds,rfl,hf⟩:=iT (ts:=[9,3,3]) (by kernel_rfl) h
 obtain⟨a,r,rfl,ha,hf⟩:=hf
 obtain⟨b,r,rfl,hb,hf⟩:=hf
 obtain⟨c,r,rfl,hc,rfl⟩:=hf
 rw[pr (by kernel_rfl)]at ha
 rw[nO (k:=.i64) (by kernel_rfl)]at hb hc
 obtain⟨a,rfl,_⟩:=ha
 obtain⟨b,rfl,_⟩:=hb
 obtain⟨c,rfl,_⟩:=hc
 exact⟨⟨a,b,c⟩,rfl,trivial⟩
theorem H5{m:Nat}{d:D}(h:Ev Tryz.prog (m+3) 46 d):∃p:PStep,d=ar p/\True:=by
 obtain⟨ds,rfl,hf⟩:=iT (ts:=[3,3,3,4]) (by kernel_rfl) h
 obtain⟨a,r,rfl,ha,hf⟩:=hf
 obtain⟨b,r,rfl,hb,hf⟩:=hf
 obtain⟨c,r,rfl,hc,hf⟩:=hf
 obtain⟨e,r,rfl,he,rfl⟩:=hf
 rw[nO (k:=.i64) (by kernel_rfl)]at ha hb hc
 rw[qM (by kernel_rfl)]at he
 obtain⟨a,rfl,_⟩:=ha
 obtain⟨b,rfl,_⟩:=hb
 obtain⟨c,rfl,_⟩:=hc
 obtain⟨e,rfl⟩:=he
 exact⟨⟨a,b,c,e⟩,rfl,trivial⟩
theorem JW{m:Nat}{d:D}(h:Ev Tryz.prog (m+6) 29 d):∃p:PCls,d=bf p/\True:=by
 obtain⟨ds,rfl,hf⟩:=iT (ts:=[9,3,4,27]) (by kernel_rfl) h
 obtain⟨a,r,rfl,ha,hf⟩:=hf
 obtain⟨b,r,rfl,hb,hf⟩:=hf
 obtain⟨c,r,rfl,hc,hf⟩:=hf
 obtain⟨e,r,rfl,he,rfl⟩:=hf
 rw[pr (by kernel_rfl)]at ha
 rw[nO (k:=.i64) (by kernel_rfl)]at hb
 rw[qM (by kernel_rfl)]at hc
 rw[gN (e:=46) (by kernel_rfl),Ps]at he
 obtain⟨a,rfl,_⟩:=ha
 obtain⟨b,rfl,_⟩:=hb
 obtain⟨c,rfl⟩:=hc
 obtain⟨e,rfl,_,hx⟩:=he
 obtain⟨l,rfl,_⟩:=rO ar (Q:=fun _=>True) (fun x hx'=>H5 (hx x hx'))
 exact⟨⟨a,b,c,l⟩,rfl,trivial⟩
theorem GQ{m:Nat}{d:D}(h:Ev Tryz.prog (m+9) 26 d):∃s:PSys,d=aY s/\s.classes.length<=9223372036854775807:=by
 obtain⟨ds,rfl,hf⟩:=iT (ts:=[22,23,24]) (by kernel_rfl) h
 obtain⟨a,r,rfl,ha,hf⟩:=hf
 obtain⟨b,r,rfl,hb,hf⟩:=hf
 obtain⟨c,r,rfl,hc,rfl⟩:=hf
 rw[gN (e:=52) (by kernel_rfl),Q0]at ha
 rw[gN (e:=9) (by kernel_rfl),XM]at hb
 rw[gN (e:=29) (by kernel_rfl),PH]at hc
 obtain⟨a,rfl,_,ha⟩:=ha
 obtain⟨b,rfl,_,hb⟩:=hb
 obtain⟨c,rfl,hcl,hc⟩:=hc
 obtain⟨a,rfl,_⟩:=rO aK (Q:=fun _=>True) (fun x hx'=>Hb (ha x hx'))
 obtain⟨b,rfl,_⟩:=rO D.str (Q:=fun _=>True) (fun x hx'=>by
  obtain⟨s,h,_⟩:=Kq (by kernel_rfl) (hb x hx')
  exact⟨s,h,trivial⟩)
 obtain⟨c,rfl,_⟩:=rO bf (Q:=fun _=>True) (fun x hx'=>JW (hc x hx'))
 rw[List.length_map]at hcl
 simp only[maxLen]at hcl
 exact⟨⟨a,b,c⟩,rfl,by simp only;omega⟩
end Go.AM

