/- PercpuLifo: for every cache, zone and list of frames: frames put one after the other and taken again come back in reverse order, and the cache is as it was. No condition. -/
import Derived.Test.YteblpegdedojdaaWalksC
import Derived.Test.YteblpegdedojdaaRows
set_option linter.unusedVariables false

namespace Go.Proofs.Yteblpegdedojdaa
open Go Go.AM Go.ChangeShapes Go.WideShapes Go.ChangeAt Go.RowKit

theorem own : ownKnob Try.prog.godebug = none := by kernel_rfl
theorem laidOut : laidOutB Try.prog = true := by kernel_rfl

theorem percpuLifo_law : LawAt Try.prog 7 9 Try.f7.params.toList := by
  intro xs hx
  have hx' : argsT Try.prog 9 [24,3,34] xs := hx
  obtain ⟨d0, r0, rfl, h0, hx1⟩ := hx'
  obtain ⟨d1, r1, rfl, h1, hx2⟩ := hx1
  obtain ⟨d2, r2, rfl, h2, rfl⟩ := hx2
  obtain ⟨L, rfl⟩ := cpu_arg h0
  obtain ⟨z, rfl, _⟩ := int_arg h1
  obtain ⟨xs, rfl, hm, _⟩ := ints_data h2
  exact ⟨lifoR, lifo_ok, L, z, xs, rfl, hm, rfl⟩

set_option maxRecDepth 100000 in
theorem percpuLifo_lifted (os : Os) (started : os.Started) (H : Type) (enc : TypeId × Value → H) :
    ReturnsInHanded {} Try.checked os 7 .any (Rows.percpuLifoSpec.pre6 enc Try.prog Try.f7 Rows.percpuLifoRow.domain false) (Rows.percpuLifoSpec.post enc Try.prog Try.f7 false true false false) :=
  law_lifted (C := Try.checked) (s := Rows.percpuLifoSpec) 9 own started (by kernel_rfl) Try.func7 4 (by kernel_rfl) (by kernel_rfl) (by kernel_rfl) rfl laidOut (by kernel_rfl) (by kernel_rfl)
    (fun H ds h => by
      have h' : ds.length = 3 := h
      match ds, h' with
      | [d1, d2, d3], _ => rfl)
    percpuLifo_law
    (ChangeSpec.witness6 (enc := enc) (C := Try.checked) false ⟨#[], #[.agg #[.slice none 0 0], .int .i64 0, .slice none 0 0], []⟩ 8 (by kernel_rfl) (by kernel_rfl) (by kernel_rfl) (by kernel_rfl))

theorem percpuLifo_proved : Rows.PercpuLifoSaid :=
  OpenClaim.holds_of_wide 7 Try.f7 rfl rfl rfl rfl rfl rfl rfl ⟨rfl, rfl, rfl, rfl, rfl⟩ rfl rfl rfl rfl rfl (by kernel_rfl) Try.func7 (by kernel_rfl)
    (of_decide_eq_true (by kernel_rfl)) (by unfold Func.isWrapper; first | (rw [if_pos (by decide +kernel)]; kernel_rfl) | (rw [if_neg (by decide +kernel)]; exact ⟨rfl, rfl⟩))
    (fun os started H enc _ => percpuLifo_lifted os started H enc)
#print axioms percpuLifo_proved
end Go.Proofs.Yteblpegdedojdaa

