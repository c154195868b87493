/- WaitgraphGraphs: for every number and every list of edges, the law function returns true, Components, Cycle and Levels of waitgraph returning what the document asks for, and it leaves its arguments as they were. No condition. -/
import Derived.Test.YtcigeonmhefdhaaLawJ
import Derived.Test.YtcigeonmhefdhaaRows
set_option linter.unusedVariables false

namespace Go.Proofs.Ytcigeonmhefdhaa
open Go Go.AM Go.ChangeShapes Go.WideShapes Go.ChangeAt Go.RowKit

theorem own : ownKnob Try.prog.godebug = none := by kernel_rfl
theorem laidOut : laidOutB Try.prog = true := by kernel_rfl

theorem waitgraphGraphs_law : LawAt Try.prog 5 9 Try.f5.params.toList := by
  intro xs hx
  have hx' : argsT Try.prog 9 [3, 34] xs := hx
  obtain ⟨d0, r0, rfl, h0, hx1⟩ := hx'
  obtain ⟨d1, r1, rfl, h1, rfl⟩ := hx1
  obtain ⟨n, rfl, hn⟩ := arg_int (k := .i64) (by kernel_rfl) h0
  obtain ⟨l, rfl⟩ := edges_arg h1
  exact ⟨lawEdR, lawGraphs_ok, n, l, rfl, rfl⟩

set_option maxRecDepth 100000 in
theorem waitgraphGraphs_lifted (os : Os) (started : os.Started) (H : Type) (enc : TypeId × Value → H) :
    ReturnsInHanded {} Try.checked os 5 .any (Rows.waitgraphGraphsSpec.pre6 enc Try.prog Try.f5 Rows.waitgraphGraphsRow.domain false) (Rows.waitgraphGraphsSpec.post enc Try.prog Try.f5 false true false false) :=
  law_lifted (C := Try.checked) (s := Rows.waitgraphGraphsSpec) 9 own started (by kernel_rfl) Try.func5 4 (by kernel_rfl) (by kernel_rfl) (by kernel_rfl) rfl laidOut (by kernel_rfl) (by kernel_rfl)
    (fun H ds h => by
      have h' : ds.length = 2 := h
      match ds, h' with
      | [d1, d2], _ => rfl)
    waitgraphGraphs_law (fun _ _ _ _ _ h => by cases h)
    (ChangeSpec.witness6 (enc := enc) (C := Try.checked) false ⟨#[], #[.int .i64 0, .slice none 0 0], []⟩ 8 (by kernel_rfl) (by kernel_rfl) (by kernel_rfl) (by kernel_rfl))

theorem waitgraphGraphs_proved : Rows.WaitgraphGraphsSaid :=
  OpenClaim.holds_of_wide 5 Try.f5 rfl rfl rfl rfl rfl rfl rfl ⟨rfl, rfl, rfl, rfl, rfl⟩ rfl rfl rfl rfl rfl (by kernel_rfl) Try.func5 (by kernel_rfl)
    (of_decide_eq_true (by kernel_rfl)) (by unfold Func.isWrapper; first | (rw [if_pos (by decide +kernel)]; kernel_rfl) | (rw [if_neg (by decide +kernel)]; exact ⟨rfl, rfl⟩))
    (fun os started H enc _ => waitgraphGraphs_lifted os started H enc)
#print axioms waitgraphGraphs_proved
end Go.Proofs.Ytcigeonmhefdhaa

