/- WaitgraphEdges: for every system, Edges of waitgraph returns the edges and the error that the reference returns, and the statement's call returns true and leaves its argument as it was. No condition. -/
import Derived.Test.YtcigeonmhefdhaaLawB
import Derived.Test.YtcigeonmhefdhaaLawA
import Derived.Test.YtcigeonmhefdhaaRows
set_option linter.unusedVariables false

namespace Go.Proofs.Ytcigeonmhefdhaa
open Go Go.AM Go.ChangeShapes Go.WideShapes Go.ChangeAt Go.RowKit

theorem own : ownKnob Try.prog.godebug = none := by kernel_rfl
theorem laidOut : laidOutB Try.prog = true := by kernel_rfl

theorem waitgraphEdges_law : LawAt Try.prog 4 9 Try.f4.params.toList := by
  intro xs hx
  have hx' : argsT Try.prog 9 [26] xs := hx
  obtain ⟨d0, r0, rfl, h0, rfl⟩ := hx'
  obtain ⟨s, rfl⟩ := sys_arg h0
  exact ⟨lawER, lawEdges_ok, s, rfl, rfl⟩

set_option maxRecDepth 100000 in
theorem waitgraphEdges_lifted (os : Os) (started : os.Started) (H : Type) (enc : TypeId × Value → H) :
    ReturnsInHanded {} Try.checked os 4 .any (Rows.waitgraphEdgesSpec.pre6 enc Try.prog Try.f4 Rows.waitgraphEdgesRow.domain false) (Rows.waitgraphEdgesSpec.post enc Try.prog Try.f4 false true false false) :=
  law_lifted (C := Try.checked) (s := Rows.waitgraphEdgesSpec) 9 own started (by kernel_rfl) Try.func4 4 (by kernel_rfl) (by kernel_rfl) (by kernel_rfl) rfl laidOut (by kernel_rfl) (by kernel_rfl)
    (fun H ds h => by
      have h' : ds.length = 1 := h
      match ds, h' with
      | [d1], _ => rfl)
    waitgraphEdges_law (fun _ _ _ _ _ h => by cases h)
    (ChangeSpec.witness6 (enc := enc) (C := Try.checked) false ⟨#[], #[.agg #[.slice none 0 0, .slice none 0 0, .slice none 0 0]], []⟩ 8 (by kernel_rfl) (by kernel_rfl) (by kernel_rfl) (by kernel_rfl))

theorem waitgraphEdges_proved : Rows.WaitgraphEdgesSaid :=
  OpenClaim.holds_of_wide 4 Try.f4 rfl rfl rfl rfl rfl rfl rfl ⟨rfl, rfl, rfl, rfl, rfl⟩ rfl rfl rfl rfl rfl (by kernel_rfl) Try.func4 (by kernel_rfl)
    (of_decide_eq_true (by kernel_rfl)) (by unfold Func.isWrapper; first | (rw [if_pos (by decide +kernel)]; kernel_rfl) | (rw [if_neg (by decide +kernel)]; exact ⟨rfl, rfl⟩))
    (fun os started H enc _ => waitgraphEdges_lifted os started H enc)
#print axioms waitgraphEdges_proved
end Go.Proofs.Ytcigeonmhefdhaa

