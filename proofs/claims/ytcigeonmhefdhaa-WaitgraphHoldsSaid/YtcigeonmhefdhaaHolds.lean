/- WaitgraphHolds: for every system, the law function returns true, the edges of waitgraph being just those from what a class holds ahead of a step that may wait to what the step waits for, and it leaves its argument as it was. No condition. -/
import Derived.Test.YtcigeonmhefdhaaLawC
import Derived.Test.YtcigeonmhefdhaaLawA
import Derived.Test.YtcigeonmhefdhaaRows
set_option linter.unusedVariables false

namespace Go.Proofs.Ytcigeonmhefdhaa
open Go Go.AM Go.ChangeShapes Go.WideShapes Go.ChangeAt Go.RowKit

theorem own : ownKnob Try.prog.godebug = none := by kernel_rfl
theorem laidOut : laidOutB Try.prog = true := by kernel_rfl

theorem waitgraphHolds_law : LawAt Try.prog 9 9 Try.f9.params.toList := by
  intro xs hx
  have hx' : argsT Try.prog 9 [26] xs := hx
  obtain ⟨d0, r0, rfl, h0, rfl⟩ := hx'
  obtain ⟨s, rfl⟩ := sys_arg h0
  exact ⟨lawER, lawHolds_ok, s, rfl, rfl⟩

set_option maxRecDepth 100000 in
theorem waitgraphHolds_lifted (os : Os) (started : os.Started) (H : Type) (enc : TypeId × Value → H) :
    ReturnsInHanded {} Try.checked os 9 .any (Rows.waitgraphHoldsSpec.pre6 enc Try.prog Try.f9 Rows.waitgraphHoldsRow.domain false) (Rows.waitgraphHoldsSpec.post enc Try.prog Try.f9 false true false false) :=
  law_lifted (C := Try.checked) (s := Rows.waitgraphHoldsSpec) 9 own started (by kernel_rfl) Try.func9 4 (by kernel_rfl) (by kernel_rfl) (by kernel_rfl) rfl laidOut (by kernel_rfl) (by kernel_rfl)
    (fun H ds h => by
      have h' : ds.length = 1 := h
      match ds, h' with
      | [d1], _ => rfl)
    waitgraphHolds_law (fun _ _ _ _ _ h => by cases h)
    (ChangeSpec.witness6 (enc := enc) (C := Try.checked) false ⟨#[], #[.agg #[.slice none 0 0, .slice none 0 0, .slice none 0 0]], []⟩ 8 (by kernel_rfl) (by kernel_rfl) (by kernel_rfl) (by kernel_rfl))

theorem waitgraphHolds_proved : Rows.WaitgraphHoldsSaid :=
  OpenClaim.holds_of_wide 9 Try.f9 rfl rfl rfl rfl rfl rfl rfl ⟨rfl, rfl, rfl, rfl, rfl⟩ rfl rfl rfl rfl rfl (by kernel_rfl) Try.func9 (by kernel_rfl)
    (of_decide_eq_true (by kernel_rfl)) (by unfold Func.isWrapper; first | (rw [if_pos (by decide +kernel)]; kernel_rfl) | (rw [if_neg (by decide +kernel)]; exact ⟨rfl, rfl⟩))
    (fun os started H enc _ => waitgraphHolds_lifted os started H enc)
#print axioms waitgraphHolds_proved
end Go.Proofs.Ytcigeonmhefdhaa

