/- PathsParses: for every text, Parse answers as the reference's Parse does. No condition but that the listed tables read as laid. -/
import Derived.Test.YtaecgpgkfajfjaaGreatDoorP26
set_option linter.unnecessarySimpa false
set_option linter.unusedVariables false

namespace Go.Proofs.YtaecgpgkfajfjaaGreatDoor
open Go Go.AM Go.ChangeShapes Go.WideShapes Go.ChangeAt Go.RowKit
theorem pathsParses_law:LawAt Tryz.prog 4 9 Tryz.f4.params.toList:=by
 intro xs hx
 have hx':argsT Tryz.prog 9 [9] xs:=hx
 obtain⟨d0,r0,rfl,h0,rfl⟩:=hx'
 obtain⟨s,rfl⟩:=str_arg41 h0
 exact⟨lawTR41,lawParses41_ok,s,rfl,rfl⟩
set_option maxRecDepth 100000 in
theorem pathsParses_lifted(os:Os)(started:os.Started)(H:Type)(enc:TypeId×Value->H) :
  ReturnsInHanded {} Tryz.checked os 4 .any (fun w args=>(Rows.pathsParsesSpec.pre enc Tryz.prog Tryz.f4 [] false w args/\laidMetH Tryz.prog laid1 w)/\sizedMet enc Tryz.prog Tryz.f4 (OpenSpec.ofChange Rows.pathsParsesSpec) false w args) (Rows.pathsParsesSpec.post enc Tryz.prog Tryz.f4 false true false false) :=
 law_lifted_laid (C:=Tryz.checked) (s:=Rows.pathsParsesSpec) laid1 9 own started (by kernel_rfl) Tryz.func4 4 (by kernel_rfl) (by kernel_rfl) (by kernel_rfl) rfl laidOut (by kernel_rfl) (by kernel_rfl)
  (fun H ds h=>by
   have h':ds.length=1:=h
   match ds,h' with
   | [d1],_=>rfl)
  pathsParses_law glob_met
  (ChangeSpec.witness_shaped (enc:=enc) (C:=Tryz.checked) (os:=os) (X:=fun w _=>laidMetH Tryz.prog laid1 w) false (World.laidAll Tryz.prog os laid1) #[.string ⟨#[]⟩] 8 (World.laidAll_os _ _ _) (shaped_laid os) (by kernel_rfl) (by kernel_rfl) (by kernel_rfl) (door_met os _))
theorem pathsParses_holds:Rows.PathsParsesSaid :=
 OpenClaim.holds_of_wide 4 Tryz.f4 rfl rfl rfl rfl rfl rfl rfl ⟨rfl,rfl,rfl,rfl,rfl⟩ rfl rfl rfl rfl rfl (by kernel_rfl) Tryz.func4 (by kernel_rfl)
  (of_decide_eq_true (by kernel_rfl)) (by unfold Func.isWrapper;first|(rw[if_pos (by decide +kernel)];kernel_rfl)|(rw[if_neg (by decide +kernel)];exact⟨rfl,rfl⟩))
  (fun os started H enc _=>pathsParses_lifted os started H enc)
theorem pathsParses_proved:Rows.PathsParsesCardSaid :=
 Claim7.holds_tied_plain_at .later [] [.data, .data, .data, .data, .pinned] true (true, "ee4c5a8e326f6ade1b0727e4a03d68726a376b9b9647bfaf8dc03d477d69889b") false
  pathsParses_holds (fun _ h=>by cases h) (by kernel_rfl) (fun _ h=>by cases h) pathsParses_row_tie rfl ⟨rfl,rfl⟩ (by kernel_rfl) rfl
  (fun f fn hf hfn=>by
   obtain rfl : f = 4 := Option.some.inj ((show Tryz.prog.funcNamed "estovers/estoverslaw41.PathsParses" = some 4 by kernel_rfl).symm.trans hf) |>.symm
   obtain rfl:fn=Tryz.f4:=(Option.some.inj (Tryz.func4.symm.trans hfn)).symm
   exact⟨by kernel_rfl,fun j t ht=>by
    have hm:t∈[9]:=by
     have e:Tryz.f4.params.toList=[9]:=by kernel_rfl
     rw[← e]
     exact Array.mem_toList_iff.2 (Array.mem_of_getElem? ht)
    have hall:([9].all fun u=>!Tryz.prog.wantsStandIn u)=true:=by kernel_rfl
    exact(show Tryz.prog.wantsStandIn t=false by simpa using List.all_eq_true.1 hall t hm)⟩)
  (by kernel_rfl)
#print axioms pathsParses_proved
end Go.Proofs.YtaecgpgkfajfjaaGreatDoor

