/- CertificateExplains: for every system, the cycle that Explain returns consists of edges of the wait graph, each of which begins where the one before ends: the law's call returns true and leaves its argument as it was. No condition. -/
import Derived.Test.YtholibdhogbobaaH19
import Derived.Test.YtholibdhogbobaaRows
set_option linter.unusedVariables false

namespace Go.Proofs.Ytholibdhogbobaa
open Go Go.AM Go.ChangeShapes Go.WideShapes Go.ChangeAt Go.RowKit

theorem own : ownKnob Try.prog.godebug = none := by kernel_rfl
theorem laidOut : laidOutB Try.prog = true := by kernel_rfl

theorem certificateExplains_law : LawAt Try.prog 6 9 Try.f6.params.toList := by
  intro xs hx
  have hx' : argsT Try.prog 9 [26] xs := hx
  obtain ⟨d0, r0, rfl, h0, rfl⟩ := hx'
  obtain ⟨s, rfl⟩ := sys_arg h0
  exact ⟨lawSR, lawExplains_ok, s, rfl, rfl⟩

set_option maxRecDepth 100000 in
theorem certificateExplains_lifted (os : Os) (started : os.Started) (H : Type) (enc : TypeId × Value → H) :
    ReturnsInHanded {} Try.checked os 6 .any (Rows.certificateExplainsSpec.pre6 enc Try.prog Try.f6 Rows.certificateExplainsRow.domain false) (Rows.certificateExplainsSpec.post enc Try.prog Try.f6 false true false false) :=
  law_lifted (C := Try.checked) (s := Rows.certificateExplainsSpec) 9 own started (by kernel_rfl) Try.func6 4 (by kernel_rfl) (by kernel_rfl) (by kernel_rfl) rfl laidOut (by kernel_rfl) (by kernel_rfl)
    (fun H ds h => by
      have h' : ds.length = 1 := h
      match ds, h' with
      | [d1], _ => rfl)
    certificateExplains_law (fun _ _ _ _ _ h => by cases h)
    (ChangeSpec.witness6 (enc := enc) (C := Try.checked) false ⟨#[], #[.agg #[.slice none 0 0, .slice none 0 0, .slice none 0 0]], []⟩ 8 (by kernel_rfl) (by kernel_rfl) (by kernel_rfl) (by kernel_rfl))

theorem certificateExplains_proved : Rows.CertificateExplainsSaid :=
  OpenClaim.holds_of_wide 6 Try.f6 rfl rfl rfl rfl rfl rfl rfl ⟨rfl, rfl, rfl, rfl, rfl⟩ rfl rfl rfl rfl rfl (by kernel_rfl) Try.func6 (by kernel_rfl)
    (of_decide_eq_true (by kernel_rfl)) (by unfold Func.isWrapper; first | (rw [if_pos (by decide +kernel)]; kernel_rfl) | (rw [if_neg (by decide +kernel)]; exact ⟨rfl, rfl⟩))
    (fun os started H enc _ => certificateExplains_lifted os started H enc)
#print axioms certificateExplains_proved
end Go.Proofs.Ytholibdhogbobaa

