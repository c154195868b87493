/- WaitgraphLevels: for every small number and every list of pairs, the law function returns true, the levels that Levels of waitgraph returns being those of the graph, and none exactly if Cycle returns a cycle, and it leaves its arguments as they were. No condition. -/
import Derived.Test.YtcigeonmhefdhaaLawG
import Derived.Test.YtcigeonmhefdhaaGraphN
import Derived.Test.YtcigeonmhefdhaaRows
set_option linter.unusedVariables false

namespace Go.Proofs.Ytcigeonmhefdhaa
open Go Go.AM Go.ChangeShapes Go.WideShapes Go.ChangeAt Go.RowKit

theorem own : ownKnob Try.prog.godebug = none := by kernel_rfl
theorem laidOut : laidOutB Try.prog = true := by kernel_rfl

theorem waitgraphLevels_law : LawAt Try.prog 7 9 Try.f7.params.toList := by
  intro xs hx
  have hx' : argsT Try.prog 9 [5, 43] xs := hx
  obtain ⟨d0, r0, rfl, h0, hx1⟩ := hx'
  obtain ⟨d1, r1, rfl, h1, rfl⟩ := hx1
  obtain ⟨a, rfl, ha⟩ := u8_arg h0
  obtain ⟨L, rfl, hL⟩ := pairs_arg h1
  exact ⟨lawGR, lawLevels_ok, a, L, rfl, ha, hL, rfl⟩

set_option maxRecDepth 100000 in
theorem waitgraphLevels_lifted (os : Os) (started : os.Started) (H : Type) (enc : TypeId × Value → H) :
    ReturnsInHanded {} Try.checked os 7 .any (Rows.waitgraphLevelsSpec.pre6 enc Try.prog Try.f7 Rows.waitgraphLevelsRow.domain false) (Rows.waitgraphLevelsSpec.post enc Try.prog Try.f7 false true false false) :=
  law_lifted (C := Try.checked) (s := Rows.waitgraphLevelsSpec) 9 own started (by kernel_rfl) Try.func7 4 (by kernel_rfl) (by kernel_rfl) (by kernel_rfl) rfl laidOut (by kernel_rfl) (by kernel_rfl)
    (fun H ds h => by
      have h' : ds.length = 2 := h
      match ds, h' with
      | [d1, d2], _ => rfl)
    waitgraphLevels_law (fun _ _ _ _ _ h => by cases h)
    (ChangeSpec.witness6 (enc := enc) (C := Try.checked) false ⟨#[], #[.int .u8 0, .slice none 0 0], []⟩ 8 (by kernel_rfl) (by kernel_rfl) (by kernel_rfl) (by kernel_rfl))

theorem waitgraphLevels_proved : Rows.WaitgraphLevelsSaid :=
  OpenClaim.holds_of_wide 7 Try.f7 rfl rfl rfl rfl rfl rfl rfl ⟨rfl, rfl, rfl, rfl, rfl⟩ rfl rfl rfl rfl rfl (by kernel_rfl) Try.func7 (by kernel_rfl)
    (of_decide_eq_true (by kernel_rfl)) (by unfold Func.isWrapper; first | (rw [if_pos (by decide +kernel)]; kernel_rfl) | (rw [if_neg (by decide +kernel)]; exact ⟨rfl, rfl⟩))
    (fun os started H enc _ => waitgraphLevels_lifted os started H enc)
#print axioms waitgraphLevels_proved
end Go.Proofs.Ytcigeonmhefdhaa

