/- TopPacked: compacting a zone without pinned cells leaves exactly the frames behind the movable ones free, as many as before (63 cells); the call of the law returns true. No condition. -/
import Derived.Test.YtjfoclncfhiffaaD16
import Derived.Test.YtjfoclncfhiffaaRows
set_option linter.unnecessarySimpa false
set_option linter.unusedVariables false

namespace Go.Proofs.Ytjfoclncfhiffaa
open Go Go.AM Go.ChangeShapes Go.WideShapes Go.ChangeAt Go.RowKit
theorem own:ownKnob Try.prog.godebug=none:=by kernel_rfl
theorem laidOut:laidOutB Try.prog=true:=by kernel_rfl
theorem topPacked_law:LawAt Try.prog 3 9 Try.f3.params.toList:=by
 intro xs hx
 have hx':argsT Try.prog 9 [22] xs:=hx
 obtain⟨d0,r0,rfl,h0,rfl⟩:=hx'
 obtain⟨l,hll,hnl,rfl⟩:=bytes_arg h0
 exact⟨lawR,law_ok,l,hll,hnl,rfl,rfl⟩
set_option maxRecDepth 100000 in
theorem topPacked_lifted(os:Os)(started:os.Started)(H:Type)(enc:TypeId×Value->H) :
  ReturnsInHanded {} Try.checked os 3 .any (Rows.topPackedSpec.pre6 enc Try.prog Try.f3 Rows.topPackedRow.domain false) (Rows.topPackedSpec.post enc Try.prog Try.f3 false true false false) :=
 law_lifted (C:=Try.checked) (s:=Rows.topPackedSpec) 9 own started (by kernel_rfl) Try.func3 4 (by kernel_rfl) (by kernel_rfl) (by kernel_rfl) rfl laidOut (by kernel_rfl) (by kernel_rfl)
  (fun H ds h=>by
   have h':ds.length=1:=h
   match ds,h' with
   | [d1],_=>rfl)
  topPacked_law (fun _ _ _ _ _ h=>by cases h)
  (ChangeSpec.witness6 (enc:=enc) (C:=Try.checked) false ⟨#[],#[.slice none 0 0],[]⟩ 8 (by kernel_rfl) (by kernel_rfl) (by kernel_rfl) (by kernel_rfl))
theorem topPacked_proved:Rows.TopPackedSaid :=
 OpenClaim.holds_of_wide 3 Try.f3 rfl rfl rfl rfl rfl rfl rfl ⟨rfl,rfl,rfl,rfl,rfl⟩ rfl rfl rfl rfl rfl (by kernel_rfl) Try.func3 (by kernel_rfl)
  (of_decide_eq_true (by kernel_rfl)) (by unfold Func.isWrapper;first|(rw[if_pos (by decide +kernel)];kernel_rfl)|(rw[if_neg (by decide +kernel)];exact⟨rfl,rfl⟩))
  (fun os started H enc _=>topPacked_lifted os started H enc)
#print axioms topPacked_proved
end Go.Proofs.Ytjfoclncfhiffaa

