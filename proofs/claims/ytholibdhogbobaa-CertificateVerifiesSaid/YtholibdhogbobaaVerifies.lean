/- CertificateVerifies: for every system and every list of levels, Verify returns the error that the reference returns, and the law's call returns true and leaves its arguments as they were. No condition. -/
import Derived.Test.YtholibdhogbobaaC21
import Derived.Test.YtholibdhogbobaaRows
set_option linter.unusedVariables false

namespace Go.Proofs.Ytholibdhogbobaa
open Go Go.AM Go.ChangeShapes Go.WideShapes Go.ChangeAt Go.RowKit

theorem own : ownKnob Try.prog.godebug = none := by kernel_rfl
theorem laidOut : laidOutB Try.prog = true := by kernel_rfl

theorem certificateVerifies_law : LawAt Try.prog 4 9 Try.f4.params.toList := by
  intro xs hx
  have hx' : argsT Try.prog 9 [26, 29] xs := hx
  obtain ⟨d0, r0, rfl, h0, hx1⟩ := hx'
  obtain ⟨d1, r1, rfl, h1, rfl⟩ := hx1
  obtain ⟨s, rfl⟩ := sys_arg h0
  obtain ⟨L, rfl, hL⟩ := ints_arg h1
  exact ⟨lawLR, lawVerifies_ok, s, L, rfl, rfl⟩

set_option maxRecDepth 100000 in
theorem certificateVerifies_lifted (os : Os) (started : os.Started) (H : Type) (enc : TypeId × Value → H) :
    ReturnsInHanded {} Try.checked os 4 .any (Rows.certificateVerifiesSpec.pre6 enc Try.prog Try.f4 Rows.certificateVerifiesRow.domain false) (Rows.certificateVerifiesSpec.post enc Try.prog Try.f4 false true false false) :=
  law_lifted (C := Try.checked) (s := Rows.certificateVerifiesSpec) 9 own started (by kernel_rfl) Try.func4 4 (by kernel_rfl) (by kernel_rfl) (by kernel_rfl) rfl laidOut (by kernel_rfl) (by kernel_rfl)
    (fun H ds h => by
      have h' : ds.length = 2 := h
      match ds, h' with
      | [d1, d2], _ => rfl)
    certificateVerifies_law (fun _ _ _ _ _ h => by cases h)
    (ChangeSpec.witness6 (enc := enc) (C := Try.checked) false ⟨#[], #[.agg #[.slice none 0 0, .slice none 0 0, .slice none 0 0], .slice none 0 0], []⟩ 8 (by kernel_rfl) (by kernel_rfl) (by kernel_rfl) (by kernel_rfl))

theorem certificateVerifies_proved : Rows.CertificateVerifiesSaid :=
  OpenClaim.holds_of_wide 4 Try.f4 rfl rfl rfl rfl rfl rfl rfl ⟨rfl, rfl, rfl, rfl, rfl⟩ rfl rfl rfl rfl rfl (by kernel_rfl) Try.func4 (by kernel_rfl)
    (of_decide_eq_true (by kernel_rfl)) (by unfold Func.isWrapper; first | (rw [if_pos (by decide +kernel)]; kernel_rfl) | (rw [if_neg (by decide +kernel)]; exact ⟨rfl, rfl⟩))
    (fun os started H enc _ => certificateVerifies_lifted os started H enc)
#print axioms certificateVerifies_proved
end Go.Proofs.Ytholibdhogbobaa

