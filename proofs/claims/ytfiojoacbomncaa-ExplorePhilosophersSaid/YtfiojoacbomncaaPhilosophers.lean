/- ExplorePhilosophers: for every number, philosophers who all begin with the same hand get stuck, and not if one is left-handed, and the law's call returns true. No condition. -/
import Derived.Test.YtfiojoacbomncaaD21
import Derived.Test.YtfiojoacbomncaaE2
import Derived.Test.YtfiojoacbomncaaD21
import Derived.Test.YtfiojoacbomncaaRows
set_option linter.unusedVariables false
namespace Go.Proofs.Ytfiojoacbomncaa
open Go Go.AM Go.ChangeShapes Go.WideShapes Go.ChangeAt Go.RowKit

theorem own : ownKnob Try.prog.godebug = none := by kernel_rfl
theorem laidOut : laidOutB Try.prog = true := by kernel_rfl

theorem explorePhilosophers_law : LawAt Try.prog 7 9 Try.f7.params.toList := by
  intro xs hx
  have hx' : argsT Try.prog 9 [5] xs := hx
  obtain ⟨d0, r0, rfl, h0, rfl⟩ := hx'
  obtain ⟨a, rfl, ha⟩ := byte_arg h0
  exact ⟨lawPhR, lawPhilosophers_ok, a, rfl, ha, rfl⟩

set_option maxRecDepth 100000 in
theorem explorePhilosophers_lifted (os : Os) (started : os.Started) (H : Type) (enc : TypeId × Value → H) :
    ReturnsInHanded {} Try.checked os 7 .any (Rows.explorePhilosophersSpec.pre6 enc Try.prog Try.f7 Rows.explorePhilosophersRow.domain false) (Rows.explorePhilosophersSpec.post enc Try.prog Try.f7 false true false false) :=
  law_lifted (C := Try.checked) (s := Rows.explorePhilosophersSpec) 9 own started (by kernel_rfl) Try.func7 4 (by kernel_rfl) (by kernel_rfl) (by kernel_rfl) rfl laidOut (by kernel_rfl) (by kernel_rfl)
    (fun H ds h => by
      have h' : ds.length = 1 := h
      match ds, h' with
      | [d1], _ => rfl)
    explorePhilosophers_law (fun _ _ _ _ _ h => by cases h)
    (ChangeSpec.witness6 (enc := enc) (C := Try.checked) false ⟨#[], #[.int .u8 0], []⟩ 8 (by kernel_rfl) (by kernel_rfl) (by kernel_rfl) (by kernel_rfl))

theorem explorePhilosophers_proved : Rows.ExplorePhilosophersSaid :=
  OpenClaim.holds_of_wide 7 Try.f7 rfl rfl rfl rfl rfl rfl rfl ⟨rfl, rfl, rfl, rfl, rfl⟩ rfl rfl rfl rfl rfl (by kernel_rfl) Try.func7 (by kernel_rfl)
    (of_decide_eq_true (by kernel_rfl)) (by unfold Func.isWrapper; first | (rw [if_pos (by decide +kernel)]; kernel_rfl) | (rw [if_neg (by decide +kernel)]; exact ⟨rfl, rfl⟩))
    (fun os started H enc _ => explorePhilosophers_lifted os started H enc)
#print axioms explorePhilosophers_proved
end Go.Proofs.Ytfiojoacbomncaa
