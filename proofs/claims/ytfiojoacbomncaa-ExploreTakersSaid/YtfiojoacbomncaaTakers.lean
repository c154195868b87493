/- ExploreTakers: for all numbers, workers that take units one by one can get stuck exactly if there are too few, and the law's call returns true. No condition. -/
import Derived.Test.YtfiojoacbomncaaD21
import Derived.Test.YtfiojoacbomncaaE1
import Derived.Test.YtfiojoacbomncaaD21
import Derived.Test.YtfiojoacbomncaaRows
set_option linter.unusedVariables false
namespace Go.Proofs.Ytfiojoacbomncaa
open Go Go.AM Go.ChangeShapes Go.WideShapes Go.ChangeAt Go.RowKit

theorem own : ownKnob Try.prog.godebug = none := by kernel_rfl
theorem laidOut : laidOutB Try.prog = true := by kernel_rfl

theorem exploreTakers_law : LawAt Try.prog 6 9 Try.f6.params.toList := by
  intro xs hx
  have hx' : argsT Try.prog 9 [5, 5, 5] xs := hx
  obtain ⟨d0, r0, rfl, h0, hx1⟩ := hx'
  obtain ⟨d1, r1, rfl, h1, hx2⟩ := hx1
  obtain ⟨d2, r2, rfl, h2, rfl⟩ := hx2
  obtain ⟨a, rfl, ha⟩ := byte_arg h0
  obtain ⟨b, rfl, hb⟩ := byte_arg h1
  obtain ⟨c, rfl, hc⟩ := byte_arg h2
  exact ⟨lawTkR, lawTakers_ok, a, b, c, rfl, ha, hb, hc, rfl⟩

set_option maxRecDepth 100000 in
theorem exploreTakers_lifted (os : Os) (started : os.Started) (H : Type) (enc : TypeId × Value → H) :
    ReturnsInHanded {} Try.checked os 6 .any (Rows.exploreTakersSpec.pre6 enc Try.prog Try.f6 Rows.exploreTakersRow.domain false) (Rows.exploreTakersSpec.post enc Try.prog Try.f6 false true false false) :=
  law_lifted (C := Try.checked) (s := Rows.exploreTakersSpec) 9 own started (by kernel_rfl) Try.func6 4 (by kernel_rfl) (by kernel_rfl) (by kernel_rfl) rfl laidOut (by kernel_rfl) (by kernel_rfl)
    (fun H ds h => by
      have h' : ds.length = 3 := h
      match ds, h' with
      | [d1, d2, d3], _ => rfl)
    exploreTakers_law (fun _ _ _ _ _ h => by cases h)
    (ChangeSpec.witness6 (enc := enc) (C := Try.checked) false ⟨#[], #[.int .u8 0, .int .u8 0, .int .u8 0], []⟩ 8 (by kernel_rfl) (by kernel_rfl) (by kernel_rfl) (by kernel_rfl))

theorem exploreTakers_proved : Rows.ExploreTakersSaid :=
  OpenClaim.holds_of_wide 6 Try.f6 rfl rfl rfl rfl rfl rfl rfl ⟨rfl, rfl, rfl, rfl, rfl⟩ rfl rfl rfl rfl rfl (by kernel_rfl) Try.func6 (by kernel_rfl)
    (of_decide_eq_true (by kernel_rfl)) (by unfold Func.isWrapper; first | (rw [if_pos (by decide +kernel)]; kernel_rfl) | (rw [if_neg (by decide +kernel)]; exact ⟨rfl, rfl⟩))
    (fun os started H enc _ => exploreTakers_lifted os started H enc)
#print axioms exploreTakers_proved
end Go.Proofs.Ytfiojoacbomncaa
