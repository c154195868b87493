/- CertificateReserves: for every system and every small number, with the reserve that Enough returns no deep step from the pool may wait, and with a smaller one it may, unless the pool is ample: the law's call returns true and leaves its arguments as they were. No condition. -/
import Derived.Test.YtholibdhogbobaaB19
import Derived.Test.YtholibdhogbobaaB18
import Derived.Test.YtholibdhogbobaaRows
set_option linter.unusedVariables false

namespace Go.Proofs.Ytholibdhogbobaa
open Go Go.AM Go.ChangeShapes Go.WideShapes Go.ChangeAt Go.RowKit

theorem own : ownKnob Try.prog.godebug = none := by kernel_rfl
theorem laidOut : laidOutB Try.prog = true := by kernel_rfl

theorem certificateReserves_law : LawAt Try.prog 9 9 Try.f9.params.toList := by
  intro xs hx
  have hx' : argsT Try.prog 9 [26, 5] xs := hx
  obtain ⟨d0, r0, rfl, h0, hx1⟩ := hx'
  obtain ⟨d1, r1, rfl, h1, rfl⟩ := hx1
  obtain ⟨s, rfl⟩ := sys_arg h0
  obtain ⟨a, rfl, ha⟩ := byte_arg h1
  exact ⟨lawAR, lawReserves_ok, s, a, rfl, ha, rfl⟩

set_option maxRecDepth 100000 in
theorem certificateReserves_lifted (os : Os) (started : os.Started) (H : Type) (enc : TypeId × Value → H) :
    ReturnsInHanded {} Try.checked os 9 .any (Rows.certificateReservesSpec.pre6 enc Try.prog Try.f9 Rows.certificateReservesRow.domain false) (Rows.certificateReservesSpec.post enc Try.prog Try.f9 false true false false) :=
  law_lifted (C := Try.checked) (s := Rows.certificateReservesSpec) 9 own started (by kernel_rfl) Try.func9 4 (by kernel_rfl) (by kernel_rfl) (by kernel_rfl) rfl laidOut (by kernel_rfl) (by kernel_rfl)
    (fun H ds h => by
      have h' : ds.length = 2 := h
      match ds, h' with
      | [d1, d2], _ => rfl)
    certificateReserves_law (fun _ _ _ _ _ h => by cases h)
    (ChangeSpec.witness6 (enc := enc) (C := Try.checked) false ⟨#[], #[.agg #[.slice none 0 0, .slice none 0 0, .slice none 0 0], .int .u8 0], []⟩ 8 (by kernel_rfl) (by kernel_rfl) (by kernel_rfl) (by kernel_rfl))

theorem certificateReserves_proved : Rows.CertificateReservesSaid :=
  OpenClaim.holds_of_wide 9 Try.f9 rfl rfl rfl rfl rfl rfl rfl ⟨rfl, rfl, rfl, rfl, rfl⟩ rfl rfl rfl rfl rfl (by kernel_rfl) Try.func9 (by kernel_rfl)
    (of_decide_eq_true (by kernel_rfl)) (by unfold Func.isWrapper; first | (rw [if_pos (by decide +kernel)]; kernel_rfl) | (rw [if_neg (by decide +kernel)]; exact ⟨rfl, rfl⟩))
    (fun os started H enc _ => certificateReserves_lifted os started H enc)
#print axioms certificateReserves_proved
end Go.Proofs.Ytholibdhogbobaa

