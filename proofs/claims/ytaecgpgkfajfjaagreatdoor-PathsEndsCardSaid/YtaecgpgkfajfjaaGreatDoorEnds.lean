/- PathsEnds: at the end of a class nothing is held. No condition but that the listed tables read as laid. -/
import Derived.Test.YtaecgpgkfajfjaaGreatDoorD26
import Derived.Test.YtaecgpgkfajfjaaGreatDoorD27
set_option linter.unnecessarySimpa false
set_option linter.unusedVariables false

namespace Go.Proofs.YtaecgpgkfajfjaaGreatDoor
open Go Go.AM Go.ChangeShapes Go.WideShapes Go.ChangeAt Go.RowKit
theorem pathsEnds_law:LawAt Tryz.prog 11 9 Tryz.f11.params.toList:=by
 intro xs hx
 have hx':argsT Tryz.prog 9 [26] xs:=hx
 obtain⟨d0,r0,rfl,h0,rfl⟩:=hx'
 obtain⟨s,rfl,hs⟩:=sysA_arg h0
 exact⟨lawSR,lawEnds41_ok,s,rfl,hs,rfl⟩
set_option maxRecDepth 100000 in
theorem pathsEnds_lifted(os:Os)(started:os.Started)(H:Type)(enc:TypeId×Value->H) :
  ReturnsInHanded {} Tryz.checked os 11 .any (fun w args=>(Rows.pathsEndsSpec.pre enc Tryz.prog Tryz.f11 [] false w args/\laidMetH Tryz.prog laid1 w)/\sizedMet enc Tryz.prog Tryz.f11 (OpenSpec.ofChange Rows.pathsEndsSpec) false w args) (Rows.pathsEndsSpec.post enc Tryz.prog Tryz.f11 false true false false) :=
 law_lifted_laid (C:=Tryz.checked) (s:=Rows.pathsEndsSpec) laid1 9 own started (by kernel_rfl) Tryz.func11 4 (by kernel_rfl) (by kernel_rfl) (by kernel_rfl) rfl laidOut (by kernel_rfl) (by kernel_rfl)
  (fun H ds h=>by
   have h':ds.length=1:=h
   match ds,h' with
   | [d1],_=>rfl)
  pathsEnds_law glob_met
  (ChangeSpec.witness_shaped (enc:=enc) (C:=Tryz.checked) (os:=os) (X:=fun w _=>laidMetH Tryz.prog laid1 w) false (World.laidAll Tryz.prog os laid1) #[.agg #[.slice none 0 0,.slice none 0 0,.slice none 0 0]] 8 (World.laidAll_os _ _ _) (shaped_laid os) (by kernel_rfl) (by kernel_rfl) (by kernel_rfl) (door_met os _))
theorem pathsEnds_holds:Rows.PathsEndsSaid :=
 OpenClaim.holds_of_wide 11 Tryz.f11 rfl rfl rfl rfl rfl rfl rfl ⟨rfl,rfl,rfl,rfl,rfl⟩ rfl rfl rfl rfl rfl (by kernel_rfl) Tryz.func11 (by kernel_rfl)
  (of_decide_eq_true (by kernel_rfl)) (by unfold Func.isWrapper;first|(rw[if_pos (by decide +kernel)];kernel_rfl)|(rw[if_neg (by decide +kernel)];exact⟨rfl,rfl⟩))
  (fun os started H enc _=>pathsEnds_lifted os started H enc)
theorem pathsEnds_proved:Rows.PathsEndsCardSaid :=
 Claim7.holds_tied_plain_at .later [] [.data, .data, .data, .data, .pinned] true (true, "ee4c5a8e326f6ade1b0727e4a03d68726a376b9b9647bfaf8dc03d477d69889b") false
  pathsEnds_holds (fun _ h=>by cases h) (by kernel_rfl) (fun _ h=>by cases h) pathsEnds_row_tie rfl ⟨rfl,rfl⟩ (by kernel_rfl) rfl
  (fun f fn hf hfn=>by
   obtain rfl : f = 11 := Option.some.inj ((show Tryz.prog.funcNamed "estovers/estoverslaw41.PathsEnds" = some 11 by kernel_rfl).symm.trans hf) |>.symm
   obtain rfl:fn=Tryz.f11:=(Option.some.inj (Tryz.func11.symm.trans hfn)).symm
   exact⟨by kernel_rfl,fun j t ht=>by
    have hm:t∈[26]:=by
     have e:Tryz.f11.params.toList=[26]:=by kernel_rfl
     rw[← e]
     exact Array.mem_toList_iff.2 (Array.mem_of_getElem? ht)
    have hall:([26].all fun u=>!Tryz.prog.wantsStandIn u)=true:=by kernel_rfl
    exact(show Tryz.prog.wantsStandIn t=false by simpa using List.all_eq_true.1 hall t hm)⟩)
  (by kernel_rfl)
#print axioms pathsEnds_proved
end Go.Proofs.YtaecgpgkfajfjaaGreatDoor

