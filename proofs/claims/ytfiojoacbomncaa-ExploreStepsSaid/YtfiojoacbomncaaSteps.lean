/- ExploreSteps: for every system, every schedule and every number of a pool, the steps of the schedule return what the reference returns, and the law's call returns true and leaves its arguments as they were. No condition. -/
import Derived.Test.YtfiojoacbomncaaD21
import Derived.Test.YtfiojoacbomncaaRows
set_option linter.unusedVariables false

namespace Go.Proofs.Ytfiojoacbomncaa
open Go Go.AM Go.ChangeShapes Go.WideShapes Go.ChangeAt Go.RowKit

theorem own : ownKnob Try.prog.godebug = none := by kernel_rfl
theorem laidOut : laidOutB Try.prog = true := by kernel_rfl

theorem exploreSteps_law : LawAt Try.prog 8 9 Try.f8.params.toList := by
 intro xs hx
 have hx' : argsT Try.prog 9 [26, 38, 3] xs := hx
 obtain ⟨d0, r0, rfl, h0, hx1⟩ := hx'
 obtain ⟨d1, r1, rfl, h1, hx2⟩ := hx1
 obtain ⟨d2, r2, rfl, h2, rfl⟩ := hx2
 obtain ⟨s, rfl⟩ := sys_arg h0
 obtain ⟨ws, rfl, _⟩ := ints_arg h1
 obtain ⟨p, rfl, _⟩ := int_arg h2
 exact ⟨lawStR, lawSteps_ok, s, ws, p, rfl, rfl⟩

set_option maxRecDepth 100000 in
theorem exploreSteps_lifted (os : Os) (started : os.Started) (H : Type) (enc : TypeId × Value → H) :
  ReturnsInHanded {} Try.checked os 8 .any (Rows.exploreStepsSpec.pre6 enc Try.prog Try.f8 Rows.exploreStepsRow.domain false) (Rows.exploreStepsSpec.post enc Try.prog Try.f8 false true false false) :=
 law_lifted (C := Try.checked) (s := Rows.exploreStepsSpec) 9 own started (by kernel_rfl) Try.func8 4 (by kernel_rfl) (by kernel_rfl) (by kernel_rfl) rfl laidOut (by kernel_rfl) (by kernel_rfl)
  (fun H ds h => by
   have h' : ds.length = 3 := h
   match ds, h' with
   | [d1, d2, d3], _ => rfl)
  exploreSteps_law (fun _ _ _ _ _ h => by cases h)
  (ChangeSpec.witness6 (enc := enc) (C := Try.checked) false ⟨#[], #[.agg #[.slice none 0 0, .slice none 0 0, .slice none 0 0], .slice none 0 0, .int .i64 0], []⟩ 8 (by kernel_rfl) (by kernel_rfl) (by kernel_rfl) (by kernel_rfl))

theorem exploreSteps_proved : Rows.ExploreStepsSaid :=
 OpenClaim.holds_of_wide 8 Try.f8 rfl rfl rfl rfl rfl rfl rfl ⟨rfl, rfl, rfl, rfl, rfl⟩ rfl rfl rfl rfl rfl (by kernel_rfl) Try.func8 (by kernel_rfl)
  (of_decide_eq_true (by kernel_rfl)) (by unfold Func.isWrapper; first | (rw [if_pos (by decide +kernel)]; kernel_rfl) | (rw [if_neg (by decide +kernel)]; exact ⟨rfl, rfl⟩))
  (fun os started H enc _ => exploreSteps_lifted os started H enc)
#print axioms exploreSteps_proved
end Go.Proofs.Ytfiojoacbomncaa

