/- PathsBlank. -/
import Derived.Test.YtaecgpgkfajfjaaGreatDoorD26
import Derived.Test.YtaecgpgkfajfjaaGreatDoorD27
set_option linter.unnecessarySimpa false
set_option linter.unusedVariables false

namespace Go.Proofs.YtaecgpgkfajfjaaGreatDoor
open Go Go.AM Go.ChangeShapes Go.WideShapes Go.ChangeAt Go.RowKit
theorem pathsBlank_law:LawAt Tryz.prog 10 9 Tryz.f10.params.toList:=by
 intro xs hx
 have hx':argsT Tryz.prog 9 [9] xs:=hx
 obtain⟨d0,r0,rfl,h0,rfl⟩:=hx'
 obtain⟨s,rfl⟩:=str_arg41 h0
 exact⟨lawTR41,lawBlank41_ok,s,rfl,rfl⟩
set_option maxRecDepth 100000 in
theorem pathsBlank_lifted(os:Os)(started:os.Started)(H:Type)(enc:TypeId×Value->H) :
  ReturnsInHanded {} Tryz.checked os 10 .any (fun w args=>(Rows.pathsBlankSpec.pre enc Tryz.prog Tryz.f10 [] false w args/\laidMetH Tryz.prog laid1 w)/\sizedMet enc Tryz.prog Tryz.f10 (OpenSpec.ofChange Rows.pathsBlankSpec) false w args) (Rows.pathsBlankSpec.post enc Tryz.prog Tryz.f10 false true false false) :=
 law_lifted_laid (C:=Tryz.checked) (s:=Rows.pathsBlankSpec) laid1 9 own started (by kernel_rfl) Tryz.func10 4 (by kernel_rfl) (by kernel_rfl) (by kernel_rfl) rfl laidOut (by kernel_rfl) (by kernel_rfl)
  (fun H ds h=>by
   have h':ds.length=1:=h
   match ds,h' with
   | [d1],_=>rfl)
  pathsBlank_law glob_met
  (ChangeSpec.witness_shaped (enc:=enc) (C:=Tryz.checked) (os:=os) (X:=fun w _=>laidMetH Tryz.prog laid1 w) false (World.laidAll Tryz.prog os laid1) #[.string ⟨#[]⟩] 8 (World.laidAll_os _ _ _) (shaped_laid os) (by kernel_rfl) (by kernel_rfl) (by kernel_rfl) (door_met os _))
theorem pathsBlank_holds:Rows.PathsBlankSaid :=
 OpenClaim.holds_of_wide 10 Tryz.f10 rfl rfl rfl rfl rfl rfl rfl ⟨rfl,rfl,rfl,rfl,rfl⟩ rfl rfl rfl rfl rfl (by kernel_rfl) Tryz.func10 (by kernel_rfl)
  (of_decide_eq_true (by kernel_rfl)) (by unfold Func.isWrapper;first|(rw[if_pos (by decide +kernel)];kernel_rfl)|(rw[if_neg (by decide +kernel)];exact⟨rfl,rfl⟩))
  (fun os started H enc _=>pathsBlank_lifted os started H enc)
theorem pathsBlank_proved:Rows.PathsBlankCardSaid :=
 Claim7.holds_tied_plain_at .later [] [.data, .data, .data, .data, .pinned] true (true, "ee4c5a8e326f6ade1b0727e4a03d68726a376b9b9647bfaf8dc03d477d69889b") false
  pathsBlank_holds (fun _ h=>by cases h) (by kernel_rfl) (fun _ h=>by cases h) pathsBlank_row_tie rfl ⟨rfl,rfl⟩ (by kernel_rfl) rfl
  (fun f fn hf hfn=>by
   obtain rfl : f = 10 := Option.some.inj ((show Tryz.prog.funcNamed "estovers/estoverslaw41.PathsBlank" = some 10 by kernel_rfl).symm.trans hf) |>.symm
   obtain rfl:fn=Tryz.f10:=(Option.some.inj (Tryz.func10.symm.trans hfn)).symm
   exact⟨by kernel_rfl,fun j t ht=>by
    have hm:t∈[9]:=by
     have e:Tryz.f10.params.toList=[9]:=by kernel_rfl
     rw[← e]
     exact Array.mem_toList_iff.2 (Array.mem_of_getElem? ht)
    have hall:([9].all fun u=>!Tryz.prog.wantsStandIn u)=true:=by kernel_rfl
    exact(show Tryz.prog.wantsStandIn t=false by simpa using List.all_eq_true.1 hall t hm)⟩)
  (by kernel_rfl)
#print axioms pathsBlank_proved
end Go.Proofs.YtaecgpgkfajfjaaGreatDoor

