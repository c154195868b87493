/- ExploreCertified: in every system with a certificate that Verify accepts nobody can get stuck, and the law's call returns true. No condition. -/
import Derived.Test.YtfiojoacbomncaaG22
import Derived.Test.YtfiojoacbomncaaRows
set_option linter.unusedVariables false

namespace Go.Proofs.Ytfiojoacbomncaa
open Go Go.AM Go.ChangeShapes Go.WideShapes Go.ChangeAt Go.RowKit

theorem own : ownKnob Try.prog.godebug = none := by kernel_rfl
theorem laidOut : laidOutB Try.prog = true := by kernel_rfl

theorem exploreCertified_law : LawAt Try.prog 10 9 Try.f10.params.toList := by
 intro xs hx
 have hx' : argsT Try.prog 9 [26, 38] xs := hx
 obtain ⟨d0, r0, rfl, h0, hx1⟩ := hx'
 obtain ⟨d1, r1, rfl, h1, rfl⟩ := hx1
 obtain ⟨s, rfl⟩ := sys_arg h0
 obtain ⟨ws, rfl, _⟩ := ints_arg h1
 exact ⟨lawRhR, lawCertified_ok, s, ws, rfl, rfl⟩

set_option maxRecDepth 100000 in
theorem exploreCertified_lifted (os : Os) (started : os.Started) (H : Type) (enc : TypeId × Value → H) :
  ReturnsInHanded {} Try.checked os 10 .any (Rows.exploreCertifiedSpec.pre6 enc Try.prog Try.f10 Rows.exploreCertifiedRow.domain false) (Rows.exploreCertifiedSpec.post enc Try.prog Try.f10 false true false false) :=
 law_lifted (C := Try.checked) (s := Rows.exploreCertifiedSpec) 9 own started (by kernel_rfl) Try.func10 4 (by kernel_rfl) (by kernel_rfl) (by kernel_rfl) rfl laidOut (by kernel_rfl) (by kernel_rfl)
  (fun H ds h => by
   have h' : ds.length = 2 := h
   match ds, h' with
   | [d1, d2], _ => rfl)
  exploreCertified_law (fun _ _ _ _ _ h => by cases h)
  (ChangeSpec.witness6 (enc := enc) (C := Try.checked) false ⟨#[], #[.agg #[.slice none 0 0, .slice none 0 0, .slice none 0 0], .slice none 0 0], []⟩ 8 (by kernel_rfl) (by kernel_rfl) (by kernel_rfl) (by kernel_rfl))

theorem exploreCertified_proved : Rows.ExploreCertifiedSaid :=
 OpenClaim.holds_of_wide 10 Try.f10 rfl rfl rfl rfl rfl rfl rfl ⟨rfl, rfl, rfl, rfl, rfl⟩ rfl rfl rfl rfl rfl (by kernel_rfl) Try.func10 (by kernel_rfl)
  (of_decide_eq_true (by kernel_rfl)) (by unfold Func.isWrapper; first | (rw [if_pos (by decide +kernel)]; kernel_rfl) | (rw [if_neg (by decide +kernel)]; exact ⟨rfl, rfl⟩))
  (fun os started H enc _ => exploreCertified_lifted os started H enc)
#print axioms exploreCertified_proved
end Go.Proofs.Ytfiojoacbomncaa

