/- CertificateScales: for every system and all two small numbers, levels that are multiplied and shifted are accepted again: the law's call returns true and leaves its arguments as they were. No condition. -/
import Derived.Test.YtholibdhogbobaaH19
import Derived.Test.YtholibdhogbobaaH18
import Derived.Test.YtholibdhogbobaaRows
set_option linter.unusedVariables false

namespace Go.Proofs.Ytholibdhogbobaa
open Go Go.AM Go.ChangeShapes Go.WideShapes Go.ChangeAt Go.RowKit

theorem own : ownKnob Try.prog.godebug = none := by kernel_rfl
theorem laidOut : laidOutB Try.prog = true := by kernel_rfl

theorem certificateScales_law : LawAt Try.prog 7 9 Try.f7.params.toList := by
  intro xs hx
  have hx' : argsT Try.prog 9 [26, 5, 5] xs := hx
  obtain ⟨d0, r0, rfl, h0, hx1⟩ := hx'
  obtain ⟨d1, r1, rfl, h1, hx2⟩ := hx1
  obtain ⟨d2, r2, rfl, h2, rfl⟩ := hx2
  obtain ⟨s, rfl⟩ := sys_arg h0
  obtain ⟨a, rfl, ha⟩ := byte_arg h1
  obtain ⟨b, rfl, hb⟩ := byte_arg h2
  exact ⟨lawFR, lawScales_ok, s, a, b, rfl, ha, hb, rfl⟩

set_option maxRecDepth 100000 in
theorem certificateScales_lifted (os : Os) (started : os.Started) (H : Type) (enc : TypeId × Value → H) :
    ReturnsInHanded {} Try.checked os 7 .any (Rows.certificateScalesSpec.pre6 enc Try.prog Try.f7 Rows.certificateScalesRow.domain false) (Rows.certificateScalesSpec.post enc Try.prog Try.f7 false true false false) :=
  law_lifted (C := Try.checked) (s := Rows.certificateScalesSpec) 9 own started (by kernel_rfl) Try.func7 4 (by kernel_rfl) (by kernel_rfl) (by kernel_rfl) rfl laidOut (by kernel_rfl) (by kernel_rfl)
    (fun H ds h => by
      have h' : ds.length = 3 := h
      match ds, h' with
      | [d1, d2, d3], _ => rfl)
    certificateScales_law (fun _ _ _ _ _ h => by cases h)
    (ChangeSpec.witness6 (enc := enc) (C := Try.checked) false ⟨#[], #[.agg #[.slice none 0 0, .slice none 0 0, .slice none 0 0], .int .u8 0, .int .u8 0], []⟩ 8 (by kernel_rfl) (by kernel_rfl) (by kernel_rfl) (by kernel_rfl))

theorem certificateScales_proved : Rows.CertificateScalesSaid :=
  OpenClaim.holds_of_wide 7 Try.f7 rfl rfl rfl rfl rfl rfl rfl ⟨rfl, rfl, rfl, rfl, rfl⟩ rfl rfl rfl rfl rfl (by kernel_rfl) Try.func7 (by kernel_rfl)
    (of_decide_eq_true (by kernel_rfl)) (by unfold Func.isWrapper; first | (rw [if_pos (by decide +kernel)]; kernel_rfl) | (rw [if_neg (by decide +kernel)]; exact ⟨rfl, rfl⟩))
    (fun os started H enc _ => certificateScales_lifted os started H enc)
#print axioms certificateScales_proved
end Go.Proofs.Ytholibdhogbobaa

