/- TopRunsClean: when all runs have been written, no frame counts any more, and no run is longer than permitted; the call of the law returns true. No condition. -/
import Derived.Test.YtddnngfkgpbemaaE15
import Derived.Test.YtddnngfkgpbemaaRows
set_option linter.unnecessarySimpa false
set_option linter.unusedVariables false

namespace Go.Proofs.Ytddnngfkgpbemaa
open Go Go.AM Go.ChangeShapes Go.WideShapes Go.ChangeAt Go.RowKit
theorem own:ownKnob Try.prog.godebug=none:=by kernel_rfl
theorem laidOut:laidOutB Try.prog=true:=by kernel_rfl
theorem topRunsClean_law:LawAt Try.prog 4 9 Try.f4.params.toList:=by
 intro xs hx
 have hx':argsT Try.prog 9 [22,5] xs:=hx
 obtain⟨d0,r0,rfl,h0,hx1⟩:=hx'
 obtain⟨d1,r1,rfl,h1,rfl⟩:=hx1
 obtain⟨l,hok,hlen,rfl⟩:=sks_arg h0
 obtain⟨a,rfl,ha⟩:=byte_arg h1
 exact⟨law22R,law22_ok,l,a,hlen,hok,ha,rfl,rfl⟩
set_option maxRecDepth 100000 in
theorem topRunsClean_lifted(os:Os)(started:os.Started)(H:Type)(enc:TypeId×Value->H) :
  ReturnsInHanded {} Try.checked os 4 .any (Rows.topRunsCleanSpec.pre6 enc Try.prog Try.f4 Rows.topRunsCleanRow.domain false) (Rows.topRunsCleanSpec.post enc Try.prog Try.f4 false true false false) :=
 law_lifted (C:=Try.checked) (s:=Rows.topRunsCleanSpec) 9 own started (by kernel_rfl) Try.func4 4 (by kernel_rfl) (by kernel_rfl) (by kernel_rfl) rfl laidOut (by kernel_rfl) (by kernel_rfl)
  (fun H ds h=>by
   have h':ds.length=2:=h
   match ds,h' with
   | [d1,d2],_=>rfl)
  topRunsClean_law (fun _ _ _ _ _ h=>by cases h)
  (ChangeSpec.witness6 (enc:=enc) (C:=Try.checked) false ⟨#[],#[.slice none 0 0,.int .u8 0],[]⟩ 8 (by kernel_rfl) (by kernel_rfl) (by kernel_rfl) (by kernel_rfl))
theorem topRunsClean_proved:Rows.TopRunsCleanSaid :=
 OpenClaim.holds_of_wide 4 Try.f4 rfl rfl rfl rfl rfl rfl rfl ⟨rfl,rfl,rfl,rfl,rfl⟩ rfl rfl rfl rfl rfl (by kernel_rfl) Try.func4 (by kernel_rfl)
  (of_decide_eq_true (by kernel_rfl)) (by unfold Func.isWrapper;first|(rw[if_pos (by decide +kernel)];kernel_rfl)|(rw[if_neg (by decide +kernel)];exact⟨rfl,rfl⟩))
  (fun os started H enc _=>topRunsClean_lifted os started H enc)
#print axioms topRunsClean_proved
end Go.Proofs.Ytddnngfkgpbemaa

