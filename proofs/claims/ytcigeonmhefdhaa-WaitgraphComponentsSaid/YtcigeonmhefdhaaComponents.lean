/- WaitgraphComponents: for every small number and every list of pairs, the law function returns true, two nodes having the same component exactly if each reaches the other, a component being named by its lowest node, and it leaves its arguments as they were. No condition. -/
import Derived.Test.YtcigeonmhefdhaaLawI
import Derived.Test.YtcigeonmhefdhaaGraphN
import Derived.Test.YtcigeonmhefdhaaRows
set_option linter.unusedVariables false

namespace Go.Proofs.Ytcigeonmhefdhaa
open Go Go.AM Go.ChangeShapes Go.WideShapes Go.ChangeAt Go.RowKit

theorem own : ownKnob Try.prog.godebug = none := by kernel_rfl
theorem laidOut : laidOutB Try.prog = true := by kernel_rfl

theorem waitgraphComponents_law : LawAt Try.prog 8 9 Try.f8.params.toList := by
  intro xs hx
  have hx' : argsT Try.prog 9 [5, 43] xs := hx
  obtain ⟨d0, r0, rfl, h0, hx1⟩ := hx'
  obtain ⟨d1, r1, rfl, h1, rfl⟩ := hx1
  obtain ⟨a, rfl, ha⟩ := u8_arg h0
  obtain ⟨L, rfl, hL⟩ := pairs_arg h1
  exact ⟨lawGR, lawComponents_ok, a, L, rfl, ha, hL, rfl⟩

set_option maxRecDepth 100000 in
theorem waitgraphComponents_lifted (os : Os) (started : os.Started) (H : Type) (enc : TypeId × Value → H) :
    ReturnsInHanded {} Try.checked os 8 .any (Rows.waitgraphComponentsSpec.pre6 enc Try.prog Try.f8 Rows.waitgraphComponentsRow.domain false) (Rows.waitgraphComponentsSpec.post enc Try.prog Try.f8 false true false false) :=
  law_lifted (C := Try.checked) (s := Rows.waitgraphComponentsSpec) 9 own started (by kernel_rfl) Try.func8 4 (by kernel_rfl) (by kernel_rfl) (by kernel_rfl) rfl laidOut (by kernel_rfl) (by kernel_rfl)
    (fun H ds h => by
      have h' : ds.length = 2 := h
      match ds, h' with
      | [d1, d2], _ => rfl)
    waitgraphComponents_law (fun _ _ _ _ _ h => by cases h)
    (ChangeSpec.witness6 (enc := enc) (C := Try.checked) false ⟨#[], #[.int .u8 0, .slice none 0 0], []⟩ 8 (by kernel_rfl) (by kernel_rfl) (by kernel_rfl) (by kernel_rfl))

theorem waitgraphComponents_proved : Rows.WaitgraphComponentsSaid :=
  OpenClaim.holds_of_wide 8 Try.f8 rfl rfl rfl rfl rfl rfl rfl ⟨rfl, rfl, rfl, rfl, rfl⟩ rfl rfl rfl rfl rfl (by kernel_rfl) Try.func8 (by kernel_rfl)
    (of_decide_eq_true (by kernel_rfl)) (by unfold Func.isWrapper; first | (rw [if_pos (by decide +kernel)]; kernel_rfl) | (rw [if_neg (by decide +kernel)]; exact ⟨rfl, rfl⟩))
    (fun os started H enc _ => waitgraphComponents_lifted os started H enc)
#print axioms waitgraphComponents_proved
end Go.Proofs.Ytcigeonmhefdhaa

