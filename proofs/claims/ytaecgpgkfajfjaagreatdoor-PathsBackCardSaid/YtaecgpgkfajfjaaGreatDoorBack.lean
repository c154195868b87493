/- PathsBack. -/
import Derived.Test.YtaecgpgkfajfjaaGreatDoorD26
import Derived.Test.YtaecgpgkfajfjaaGreatDoorD27
set_option linter.unnecessarySimpa false
set_option linter.unusedVariables false

namespace Go.Proofs.YtaecgpgkfajfjaaGreatDoor
open Go Go.AM Go.ChangeShapes Go.WideShapes Go.ChangeAt Go.RowKit
theorem pathsBack_law:LawAt Tryz.prog 8 9 Tryz.f8.params.toList:=by
 intro xs hx
 have hx':argsT Tryz.prog 9 [26] xs:=hx
 obtain⟨d0,r0,rfl,h0,rfl⟩:=hx'
 obtain⟨s,rfl,hs⟩:=sysA_arg h0
 exact⟨lawSR,lawBack41_ok,s,rfl,hs,rfl⟩
set_option maxRecDepth 100000 in
theorem pathsBack_lifted(os:Os)(started:os.Started)(H:Type)(enc:TypeId×Value->H) :
  ReturnsInHanded {} Tryz.checked os 8 .any (fun w args=>(Rows.pathsBackSpec.pre enc Tryz.prog Tryz.f8 [] false w args/\laidMetH Tryz.prog laid1 w)/\sizedMet enc Tryz.prog Tryz.f8 (OpenSpec.ofChange Rows.pathsBackSpec) false w args) (Rows.pathsBackSpec.post enc Tryz.prog Tryz.f8 false true false false) :=
 law_lifted_laid (C:=Tryz.checked) (s:=Rows.pathsBackSpec) laid1 9 own started (by kernel_rfl) Tryz.func8 4 (by kernel_rfl) (by kernel_rfl) (by kernel_rfl) rfl laidOut (by kernel_rfl) (by kernel_rfl)
  (fun H ds h=>by
   have h':ds.length=1:=h
   match ds,h' with
   | [d1],_=>rfl)
  pathsBack_law glob_met
  (ChangeSpec.witness_shaped (enc:=enc) (C:=Tryz.checked) (os:=os) (X:=fun w _=>laidMetH Tryz.prog laid1 w) false (World.laidAll Tryz.prog os laid1) #[.agg #[.slice none 0 0,.slice none 0 0,.slice none 0 0]] 8 (World.laidAll_os _ _ _) (shaped_laid os) (by kernel_rfl) (by kernel_rfl) (by kernel_rfl) (door_met os _))
theorem pathsBack_holds:Rows.PathsBackSaid :=
 OpenClaim.holds_of_wide 8 Tryz.f8 rfl rfl rfl rfl rfl rfl rfl ⟨rfl,rfl,rfl,rfl,rfl⟩ rfl rfl rfl rfl rfl (by kernel_rfl) Tryz.func8 (by kernel_rfl)
  (of_decide_eq_true (by kernel_rfl)) (by unfold Func.isWrapper;first|(rw[if_pos (by decide +kernel)];kernel_rfl)|(rw[if_neg (by decide +kernel)];exact⟨rfl,rfl⟩))
  (fun os started H enc _=>pathsBack_lifted os started H enc)
theorem pathsBack_proved:Rows.PathsBackCardSaid :=
 Claim7.holds_tied_plain_at .later [] [.data, .data, .data, .data, .pinned] true (true, "ee4c5a8e326f6ade1b0727e4a03d68726a376b9b9647bfaf8dc03d477d69889b") false
  pathsBack_holds (fun _ h=>by cases h) (by kernel_rfl) (fun _ h=>by cases h) pathsBack_row_tie rfl ⟨rfl,rfl⟩ (by kernel_rfl) rfl
  (fun f fn hf hfn=>by
   obtain rfl : f = 8 := Option.some.inj ((show Tryz.prog.funcNamed "estovers/estoverslaw41.PathsBack" = some 8 by kernel_rfl).symm.trans hf) |>.symm
   obtain rfl:fn=Tryz.f8:=(Option.some.inj (Tryz.func8.symm.trans hfn)).symm
   exact⟨by kernel_rfl,fun j t ht=>by
    have hm:t∈[26]:=by
     have e:Tryz.f8.params.toList=[26]:=by kernel_rfl
     rw[← e]
     exact Array.mem_toList_iff.2 (Array.mem_of_getElem? ht)
    have hall:([26].all fun u=>!Tryz.prog.wantsStandIn u)=true:=by kernel_rfl
    exact(show Tryz.prog.wantsStandIn t=false by simpa using List.all_eq_true.1 hall t hm)⟩)
  (by kernel_rfl)
#print axioms pathsBack_proved
end Go.Proofs.YtaecgpgkfajfjaaGreatDoor

