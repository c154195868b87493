/- PathsKeeps: what is handed out shares nothing with what was handed in. No condition but that the listed tables read as laid. -/
import Derived.Test.YtaecgpgkfajfjaaGreatDoorK24
set_option linter.unnecessarySimpa false
set_option linter.unusedVariables false

namespace Go.Proofs.YtaecgpgkfajfjaaGreatDoor
open Go Go.AM Go.ChangeShapes Go.WideShapes Go.ChangeAt Go.RowKit
theorem pathsKeeps_law:LawAt Tryz.prog 12 9 Tryz.f12.params.toList:=by
 intro xs hx
 have hx':argsT Tryz.prog 9 [26,3,3] xs:=hx
 obtain⟨d0,r0,rfl,h0,hx1⟩:=hx'
 obtain⟨d1,r1,rfl,h1,hx2⟩:=hx1
 obtain⟨d2,r2,rfl,h2,rfl⟩:=hx2
 obtain⟨s,rfl,hs⟩:=sysA_arg h0
 obtain⟨c,rfl,i1⟩:=int_arg h1
 obtain⟨k,rfl,i2⟩:=int_arg h2
 exact⟨lawSIR,lawKeeps41_ok,s,c,k,rfl,hs,rfl⟩
set_option maxRecDepth 100000 in
theorem pathsKeeps_lifted(os:Os)(started:os.Started)(H:Type)(enc:TypeId×Value->H) :
  ReturnsInHanded {} Tryz.checked os 12 .any (fun w args=>(Rows.pathsKeepsSpec.pre enc Tryz.prog Tryz.f12 [] false w args/\laidMetH Tryz.prog laid1 w)/\sizedMet enc Tryz.prog Tryz.f12 (OpenSpec.ofChange Rows.pathsKeepsSpec) false w args) (Rows.pathsKeepsSpec.post enc Tryz.prog Tryz.f12 false true false false) :=
 law_lifted_laid (C:=Tryz.checked) (s:=Rows.pathsKeepsSpec) laid1 9 own started (by kernel_rfl) Tryz.func12 4 (by kernel_rfl) (by kernel_rfl) (by kernel_rfl) rfl laidOut (by kernel_rfl) (by kernel_rfl)
  (fun H ds h=>by
   have h':ds.length=3:=h
   match ds,h' with
   | [d1,d2,d3],_=>rfl)
  pathsKeeps_law glob_met
  (ChangeSpec.witness_shaped (enc:=enc) (C:=Tryz.checked) (os:=os) (X:=fun w _=>laidMetH Tryz.prog laid1 w) false (World.laidAll Tryz.prog os laid1) #[.agg #[.slice none 0 0,.slice none 0 0,.slice none 0 0],.int .i64 0,.int .i64 0] 8 (World.laidAll_os _ _ _) (shaped_laid os) (by kernel_rfl) (by kernel_rfl) (by kernel_rfl) (door_met os _))
theorem pathsKeeps_holds:Rows.PathsKeepsSaid :=
 OpenClaim.holds_of_wide 12 Tryz.f12 rfl rfl rfl rfl rfl rfl rfl ⟨rfl,rfl,rfl,rfl,rfl⟩ rfl rfl rfl rfl rfl (by kernel_rfl) Tryz.func12 (by kernel_rfl)
  (of_decide_eq_true (by kernel_rfl)) (by unfold Func.isWrapper;first|(rw[if_pos (by decide +kernel)];kernel_rfl)|(rw[if_neg (by decide +kernel)];exact⟨rfl,rfl⟩))
  (fun os started H enc _=>pathsKeeps_lifted os started H enc)
theorem pathsKeeps_proved:Rows.PathsKeepsCardSaid :=
 Claim7.holds_tied_plain_at .later [] [.data, .data, .data, .data, .pinned] true (true, "ee4c5a8e326f6ade1b0727e4a03d68726a376b9b9647bfaf8dc03d477d69889b") false
  pathsKeeps_holds (fun _ h=>by cases h) (by kernel_rfl) (fun _ h=>by cases h) pathsKeeps_row_tie rfl ⟨rfl,rfl⟩ (by kernel_rfl) rfl
  (fun f fn hf hfn=>by
   obtain rfl : f = 12 := Option.some.inj ((show Tryz.prog.funcNamed "estovers/estoverslaw41.PathsKeeps" = some 12 by kernel_rfl).symm.trans hf) |>.symm
   obtain rfl:fn=Tryz.f12:=(Option.some.inj (Tryz.func12.symm.trans hfn)).symm
   exact⟨by kernel_rfl,fun j t ht=>by
    have hm:t∈[26,3,3]:=by
     have e:Tryz.f12.params.toList=[26,3,3]:=by kernel_rfl
     rw[← e]
     exact Array.mem_toList_iff.2 (Array.mem_of_getElem? ht)
    have hall:([26,3,3].all fun u=>!Tryz.prog.wantsStandIn u)=true:=by kernel_rfl
    exact(show Tryz.prog.wantsStandIn t=false by simpa using List.all_eq_true.1 hall t hm)⟩)
  (by kernel_rfl)
#print axioms pathsKeeps_proved
end Go.Proofs.YtaecgpgkfajfjaaGreatDoor

