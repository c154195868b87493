/- ExploreChecks: for every system, every state and every number of a worker, Check, Step and Enabled return what the reference returns, and the law's call returns true and leaves its arguments as they were. No condition. -/
import Derived.Test.YtfiojoacbomncaaD21
import Derived.Test.YtfiojoacbomncaaRows
set_option linter.unusedVariables false

namespace Go.Proofs.Ytfiojoacbomncaa
open Go Go.AM Go.ChangeShapes Go.WideShapes Go.ChangeAt Go.RowKit

theorem own : ownKnob Try.prog.godebug = none := by kernel_rfl
theorem laidOut : laidOutB Try.prog = true := by kernel_rfl

theorem exploreChecks_law : LawAt Try.prog 3 9 Try.f3.params.toList := by
 intro xs hx
 have hx' : argsT Try.prog 9 [26, 29, 3] xs := hx
 obtain ⟨d0, r0, rfl, h0, hx1⟩ := hx'
 obtain ⟨d1, r1, rfl, h1, hx2⟩ := hx1
 obtain ⟨d2, r2, rfl, h2, rfl⟩ := hx2
 obtain ⟨s, rfl⟩ := sys_arg h0
 obtain ⟨x, rfl⟩ := st_arg h1
 obtain ⟨w, rfl, _⟩ := int_arg h2
 exact ⟨lawChR, lawChecks_ok, s, x, w, rfl, rfl⟩

set_option maxRecDepth 100000 in
theorem exploreChecks_lifted (os : Os) (started : os.Started) (H : Type) (enc : TypeId × Value → H) :
  ReturnsInHanded {} Try.checked os 3 .any (Rows.exploreChecksSpec.pre6 enc Try.prog Try.f3 Rows.exploreChecksRow.domain false) (Rows.exploreChecksSpec.post enc Try.prog Try.f3 false true false false) :=
 law_lifted (C := Try.checked) (s := Rows.exploreChecksSpec) 9 own started (by kernel_rfl) Try.func3 4 (by kernel_rfl) (by kernel_rfl) (by kernel_rfl) rfl laidOut (by kernel_rfl) (by kernel_rfl)
  (fun H ds h => by
   have h' : ds.length = 3 := h
   match ds, h' with
   | [d1, d2, d3], _ => rfl)
  exploreChecks_law (fun _ _ _ _ _ h => by cases h)
  (ChangeSpec.witness6 (enc := enc) (C := Try.checked) false ⟨#[], #[.agg #[.slice none 0 0, .slice none 0 0, .slice none 0 0], .agg #[.slice none 0 0], .int .i64 0], []⟩ 8 (by kernel_rfl) (by kernel_rfl) (by kernel_rfl) (by kernel_rfl))

theorem exploreChecks_proved : Rows.ExploreChecksSaid :=
 OpenClaim.holds_of_wide 3 Try.f3 rfl rfl rfl rfl rfl rfl rfl ⟨rfl, rfl, rfl, rfl, rfl⟩ rfl rfl rfl rfl rfl (by kernel_rfl) Try.func3 (by kernel_rfl)
  (of_decide_eq_true (by kernel_rfl)) (by unfold Func.isWrapper; first | (rw [if_pos (by decide +kernel)]; kernel_rfl) | (rw [if_neg (by decide +kernel)]; exact ⟨rfl, rfl⟩))
  (fun os started H enc _ => exploreChecks_lifted os started H enc)
#print axioms exploreChecks_proved
end Go.Proofs.Ytfiojoacbomncaa

