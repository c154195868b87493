/- PathsEquals. -/
import Derived.Test.YtaecgpgkfajfjaaGreatDoorD26
import Derived.Test.YtaecgpgkfajfjaaGreatDoorD27
set_option linter.unnecessarySimpa false
set_option linter.unusedVariables false

namespace Go.Proofs.YtaecgpgkfajfjaaGreatDoor
open Go Go.AM Go.ChangeShapes Go.WideShapes Go.ChangeAt Go.RowKit
theorem pathsEquals_law:LawAt Tryz.prog 7 9 Tryz.f7.params.toList:=by
 intro xs hx
 have hx':argsT Tryz.prog 9 [26,26] xs:=hx
 obtain⟨d0,r0,rfl,h0,hx1⟩:=hx'
 obtain⟨d1,r1,rfl,h1,rfl⟩:=hx1
 obtain⟨s,rfl,hs⟩:=sysA_arg h0
 obtain⟨t,rfl,ht⟩:=sysA_arg h1
 exact⟨lawSSR,lawEquals41_ok,s,t,rfl,hs,ht,rfl⟩
set_option maxRecDepth 100000 in
theorem pathsEquals_lifted(os:Os)(started:os.Started)(H:Type)(enc:TypeId×Value->H) :
  ReturnsInHanded {} Tryz.checked os 7 .any (fun w args=>(Rows.pathsEqualsSpec.pre enc Tryz.prog Tryz.f7 [] false w args/\laidMetH Tryz.prog laid1 w)/\sizedMet enc Tryz.prog Tryz.f7 (OpenSpec.ofChange Rows.pathsEqualsSpec) false w args) (Rows.pathsEqualsSpec.post enc Tryz.prog Tryz.f7 false true false false) :=
 law_lifted_laid (C:=Tryz.checked) (s:=Rows.pathsEqualsSpec) laid1 9 own started (by kernel_rfl) Tryz.func7 4 (by kernel_rfl) (by kernel_rfl) (by kernel_rfl) rfl laidOut (by kernel_rfl) (by kernel_rfl)
  (fun H ds h=>by
   have h':ds.length=2:=h
   match ds,h' with
   | [d1,d2],_=>rfl)
  pathsEquals_law glob_met
  (ChangeSpec.witness_shaped (enc:=enc) (C:=Tryz.checked) (os:=os) (X:=fun w _=>laidMetH Tryz.prog laid1 w) false (World.laidAll Tryz.prog os laid1) #[.agg #[.slice none 0 0,.slice none 0 0,.slice none 0 0],.agg #[.slice none 0 0,.slice none 0 0,.slice none 0 0]] 8 (World.laidAll_os _ _ _) (shaped_laid os) (by kernel_rfl) (by kernel_rfl) (by kernel_rfl) (door_met os _))
theorem pathsEquals_holds:Rows.PathsEqualsSaid :=
 OpenClaim.holds_of_wide 7 Tryz.f7 rfl rfl rfl rfl rfl rfl rfl ⟨rfl,rfl,rfl,rfl,rfl⟩ rfl rfl rfl rfl rfl (by kernel_rfl) Tryz.func7 (by kernel_rfl)
  (of_decide_eq_true (by kernel_rfl)) (by unfold Func.isWrapper;first|(rw[if_pos (by decide +kernel)];kernel_rfl)|(rw[if_neg (by decide +kernel)];exact⟨rfl,rfl⟩))
  (fun os started H enc _=>pathsEquals_lifted os started H enc)
theorem pathsEquals_proved:Rows.PathsEqualsCardSaid :=
 Claim7.holds_tied_plain_at .later [] [.data, .data, .data, .data, .pinned] true (true, "ee4c5a8e326f6ade1b0727e4a03d68726a376b9b9647bfaf8dc03d477d69889b") false
  pathsEquals_holds (fun _ h=>by cases h) (by kernel_rfl) (fun _ h=>by cases h) pathsEquals_row_tie rfl ⟨rfl,rfl⟩ (by kernel_rfl) rfl
  (fun f fn hf hfn=>by
   obtain rfl : f = 7 := Option.some.inj ((show Tryz.prog.funcNamed "estovers/estoverslaw41.PathsEquals" = some 7 by kernel_rfl).symm.trans hf) |>.symm
   obtain rfl:fn=Tryz.f7:=(Option.some.inj (Tryz.func7.symm.trans hfn)).symm
   exact⟨by kernel_rfl,fun j t ht=>by
    have hm:t∈[26,26]:=by
     have e:Tryz.f7.params.toList=[26,26]:=by kernel_rfl
     rw[← e]
     exact Array.mem_toList_iff.2 (Array.mem_of_getElem? ht)
    have hall:([26,26].all fun u=>!Tryz.prog.wantsStandIn u)=true:=by kernel_rfl
    exact(show Tryz.prog.wantsStandIn t=false by simpa using List.all_eq_true.1 hall t hm)⟩)
  (by kernel_rfl)
#print axioms pathsEquals_proved
end Go.Proofs.YtaecgpgkfajfjaaGreatDoor

