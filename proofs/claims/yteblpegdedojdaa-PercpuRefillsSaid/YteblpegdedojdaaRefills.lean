/- PercpuRefills: for every cache, zone and list of frames, Refill of percpu returns what the reference returns, and the statement's call returns true and leaves its arguments as they were. No condition. -/
import Derived.Test.YteblpegdedojdaaWalksD
import Derived.Test.YteblpegdedojdaaRows
set_option linter.unusedVariables false

namespace Go.Proofs.Yteblpegdedojdaa
open Go Go.AM Go.ChangeShapes Go.WideShapes Go.ChangeAt Go.RowKit

theorem own : ownKnob Try.prog.godebug = none := by kernel_rfl
theorem laidOut : laidOutB Try.prog = true := by kernel_rfl

theorem percpuRefills_law : LawAt Try.prog 6 9 Try.f6.params.toList := by
  intro xs hx
  have hx' : argsT Try.prog 9 [24,3,34] xs := hx
  obtain ⟨d0, r0, rfl, h0, hx1⟩ := hx'
  obtain ⟨d1, r1, rfl, h1, hx2⟩ := hx1
  obtain ⟨d2, r2, rfl, h2, rfl⟩ := hx2
  obtain ⟨L, rfl⟩ := cpu_arg h0
  obtain ⟨z, rfl, _⟩ := int_arg h1
  obtain ⟨xs, rfl, hm, _⟩ := ints_data h2
  exact ⟨refillsR, refills_ok, L, z, xs, rfl, rfl⟩

set_option maxRecDepth 100000 in
theorem percpuRefills_lifted (os : Os) (started : os.Started) (H : Type) (enc : TypeId × Value → H) :
    ReturnsInHanded {} Try.checked os 6 .any (Rows.percpuRefillsSpec.pre6 enc Try.prog Try.f6 Rows.percpuRefillsRow.domain false) (Rows.percpuRefillsSpec.post enc Try.prog Try.f6 false true false false) :=
  law_lifted (C := Try.checked) (s := Rows.percpuRefillsSpec) 9 own started (by kernel_rfl) Try.func6 4 (by kernel_rfl) (by kernel_rfl) (by kernel_rfl) rfl laidOut (by kernel_rfl) (by kernel_rfl)
    (fun H ds h => by
      have h' : ds.length = 3 := h
      match ds, h' with
      | [d1, d2, d3], _ => rfl)
    percpuRefills_law
    (ChangeSpec.witness6 (enc := enc) (C := Try.checked) false ⟨#[], #[.agg #[.slice none 0 0], .int .i64 0, .slice none 0 0], []⟩ 8 (by kernel_rfl) (by kernel_rfl) (by kernel_rfl) (by kernel_rfl))

theorem percpuRefills_proved : Rows.PercpuRefillsSaid :=
  OpenClaim.holds_of_wide 6 Try.f6 rfl rfl rfl rfl rfl rfl rfl ⟨rfl, rfl, rfl, rfl, rfl⟩ rfl rfl rfl rfl rfl (by kernel_rfl) Try.func6 (by kernel_rfl)
    (of_decide_eq_true (by kernel_rfl)) (by unfold Func.isWrapper; first | (rw [if_pos (by decide +kernel)]; kernel_rfl) | (rw [if_neg (by decide +kernel)]; exact ⟨rfl, rfl⟩))
    (fun os started H enc _ => percpuRefills_lifted os started H enc)
#print axioms percpuRefills_proved
end Go.Proofs.Yteblpegdedojdaa

