/- TopOldestFirst: cleaning the oldest frame again and again meets the times at which pages became dirty in the order of writing; the call of the law returns true. No condition. -/
import Derived.Test.YtddnngfkgpbemaaD15
import Derived.Test.YtddnngfkgpbemaaRows
set_option linter.unnecessarySimpa false
set_option linter.unusedVariables false

namespace Go.Proofs.Ytddnngfkgpbemaa
open Go Go.AM Go.ChangeShapes Go.WideShapes Go.ChangeAt Go.RowKit
theorem own:ownKnob Try.prog.godebug=none:=by kernel_rfl
theorem laidOut:laidOutB Try.prog=true:=by kernel_rfl
theorem topOldestFirst_law:LawAt Try.prog 3 9 Try.f3.params.toList:=by
 intro xs hx
 have hx':argsT Try.prog 9 [22] xs:=hx
 obtain⟨d0,r0,rfl,h0,rfl⟩:=hx'
 obtain⟨l,hok,hlen,rfl⟩:=sks_arg h0
 exact⟨law15R,law15_ok,l,hlen,hok,rfl,rfl⟩
set_option maxRecDepth 100000 in
theorem topOldestFirst_lifted(os:Os)(started:os.Started)(H:Type)(enc:TypeId×Value->H) :
  ReturnsInHanded {} Try.checked os 3 .any (Rows.topOldestFirstSpec.pre6 enc Try.prog Try.f3 Rows.topOldestFirstRow.domain false) (Rows.topOldestFirstSpec.post enc Try.prog Try.f3 false true false false) :=
 law_lifted (C:=Try.checked) (s:=Rows.topOldestFirstSpec) 9 own started (by kernel_rfl) Try.func3 4 (by kernel_rfl) (by kernel_rfl) (by kernel_rfl) rfl laidOut (by kernel_rfl) (by kernel_rfl)
  (fun H ds h=>by
   have h':ds.length=1:=h
   match ds,h' with
   | [d1],_=>rfl)
  topOldestFirst_law (fun _ _ _ _ _ h=>by cases h)
  (ChangeSpec.witness6 (enc:=enc) (C:=Try.checked) false ⟨#[],#[.slice none 0 0],[]⟩ 8 (by kernel_rfl) (by kernel_rfl) (by kernel_rfl) (by kernel_rfl))
theorem topOldestFirst_proved:Rows.TopOldestFirstSaid :=
 OpenClaim.holds_of_wide 3 Try.f3 rfl rfl rfl rfl rfl rfl rfl ⟨rfl,rfl,rfl,rfl,rfl⟩ rfl rfl rfl rfl rfl (by kernel_rfl) Try.func3 (by kernel_rfl)
  (of_decide_eq_true (by kernel_rfl)) (by unfold Func.isWrapper;first|(rw[if_pos (by decide +kernel)];kernel_rfl)|(rw[if_neg (by decide +kernel)];exact⟨rfl,rfl⟩))
  (fun os started H enc _=>topOldestFirst_lifted os started H enc)
#print axioms topOldestFirst_proved
end Go.Proofs.Ytddnngfkgpbemaa

