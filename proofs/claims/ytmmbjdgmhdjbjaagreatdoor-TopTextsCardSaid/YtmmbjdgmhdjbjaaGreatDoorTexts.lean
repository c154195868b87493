/- TopTexts: a system that is written as text and read Bh has the same certificate, wait cycle and deadlock; the call of the law returns true. No condition but that the listed tables read as laid. -/
import Derived.Test.YtmmbjdgmhdjbjaaGreatDoorLaw
import Derived.Test.YtmmbjdgmhdjbjaaGreatDoorD31
set_option linter.unnecessarySimpa false
set_option linter.unusedVariables false

namespace Go.Proofs.YtmmbjdgmhdjbjaaGreatDoor
open Go Go.AM Go.ChangeShapes Go.WideShapes Go.ChangeAt Go.RowKit
theorem vn:JB Tryz.prog 3 9 Tryz.f3.params.toList:=by
 intro xs hx
 have hx':Be Tryz.prog 9 [26] xs:=hx
 obtain⟨d0,r0,rfl,h0,rfl⟩:=hx'
 obtain⟨s,rfl,hs⟩:=GQ h0
 exact⟨Iw,vR,s,hs,rfl,rfl⟩
set_option maxRecDepth 100000 in
theorem oM(os:Os)(started:os.Started)(H:Type)(enc:TypeId×Value->H) :
  ReturnsInHanded {} Tryz.checked os 3 .any (fun w args=>(Rows.topTextsSpec.pre enc Tryz.prog Tryz.f3 [] false w args/\laidMetH Tryz.prog oR w)/\sizedMet enc Tryz.prog Tryz.f3 (OpenSpec.ofChange Rows.topTextsSpec) false w args) (Rows.topTextsSpec.post enc Tryz.prog Tryz.f3 false true false false) :=
 nJ (C:=Tryz.checked) (s:=Rows.topTextsSpec) oR 9 own started (by kernel_rfl) Tryz.func3 4 (by kernel_rfl) (by kernel_rfl) (by kernel_rfl) rfl vM (by kernel_rfl) (by kernel_rfl)
  (fun H ds h=>by
   have h':ds.length=1:=h
   match ds,h' with
   | [d1],_=>rfl)
  vn Fz
  (ChangeSpec.witness_shaped (enc:=enc) (C:=Tryz.checked) (os:=os) (X:=fun w _=>laidMetH Tryz.prog oR w) false (World.laidAll Tryz.prog os oR) #[.agg #[.slice none 0 0,.slice none 0 0,.slice none 0 0]] 8 (World.laidAll_os _ _ _) (wh os) (by kernel_rfl) (by kernel_rfl) (by kernel_rfl) (GN os _))
theorem pP:Rows.TopTextsSaid :=
 OpenClaim.holds_of_wide 3 Tryz.f3 rfl rfl rfl rfl rfl rfl rfl ⟨rfl,rfl,rfl,rfl,rfl⟩ rfl rfl rfl rfl rfl (by kernel_rfl) Tryz.func3 (by kernel_rfl)
  (of_decide_eq_true (by kernel_rfl)) (by unfold Func.isWrapper;first|(rw[if_pos (by decide +kernel)];kernel_rfl)|(rw[if_neg (by decide +kernel)];exact⟨rfl,rfl⟩))
  (fun os started H enc _=>oM os started H enc)
theorem topTexts_proved:Rows.TopTextsCardSaid :=
 Claim7.holds_tied_plain_at .later [] [.data, .data, .data, .data, .pinned] true (true, "901768664bbc4837adcfd072be05abab565fc859d8fbc7c2a9e58e8a401f54b8") false
  pP (fun _ h=>by cases h) (by kernel_rfl) (fun _ h=>by cases h) topTexts_row_tie rfl ⟨rfl,rfl⟩ (by kernel_rfl) rfl
  (fun f fn hf hfn=>by
   obtain rfl : f = 3 := Option.some.inj ((show Tryz.prog.funcNamed "estovers/estoverstop.TopTexts" = some 3 by kernel_rfl).symm.trans hf) |>.symm
   obtain rfl:fn=Tryz.f3:=(Option.some.inj (Tryz.func3.symm.trans hfn)).symm
   exact⟨by kernel_rfl,fun j t ht=>by
    have hm:t∈[26]:=by
     have e:Tryz.f3.params.toList=[26]:=by kernel_rfl
     rw[← e]
     exact Array.mem_toList_iff.2 (Array.mem_of_getElem? ht)
    have cO:([26].all fun u=>!Tryz.prog.wantsStandIn u)=true:=by kernel_rfl
    exact(show Tryz.prog.wantsStandIn t=false by simpa using List.all_eq_true.1 cO t hm)⟩)
  (by kernel_rfl)
#print axioms topTexts_proved
end Go.Proofs.YtmmbjdgmhdjbjaaGreatDoor

