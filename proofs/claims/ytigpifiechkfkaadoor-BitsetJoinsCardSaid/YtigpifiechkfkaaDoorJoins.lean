/- BitsetJoins: for any two sets of bits, And, Or and Not return what the reference returns, and the statement's call returns true and leaves its arguments as they were. The one listed package variable (the table of math/bits) is tied to the program's text. -/
import Derived.Test.YtigpifiechkfkaaDoorLawB
import Derived.Test.YtigpifiechkfkaaDoorDoor
set_option linter.unusedVariables false

namespace Go.Proofs.YtigpifiechkfkaaDoor
open Go Go.AM Go.ChangeShapes Go.WideShapes Go.ChangeAt Go.RowKit

theorem bitsetJoins_law : LawAt Tryd.prog 9 9 Tryd.f9.params.toList := by
  intro xs hx
  have hx' : argsT Tryd.prog 9 [24, 24] xs := hx
  obtain ⟨d0, r0, rfl, h0, hx1⟩ := hx'
  obtain ⟨d1, r1, rfl, h1, rfl⟩ := hx1
  obtain ⟨sa, wa, rfl, hoa⟩ := bits_arg h0
  obtain ⟨sb, wb, rfl, hob⟩ := bits_arg h1
  exact ⟨joinsR, joins_ok, sa, wa, sb, wb, rfl, hoa, hob, rfl⟩

set_option maxRecDepth 100000 in
theorem bitsetJoins_lifted (os : Os) (started : os.Started) (H : Type) (enc : TypeId × Value → H) :
    ReturnsInHanded {} Tryd.checked os 9 .any (fun w args => (Rows.bitsetJoinsSpec.pre enc Tryd.prog Tryd.f9 [] false w args ∧ laidMetH Tryd.prog laid1 w) ∧ sizedMet enc Tryd.prog Tryd.f9 (OpenSpec.ofChange Rows.bitsetJoinsSpec) false w args) (Rows.bitsetJoinsSpec.post enc Tryd.prog Tryd.f9 false true false false) :=
  law_lifted_laid (C := Tryd.checked) (s := Rows.bitsetJoinsSpec) laid1 9 own started (by kernel_rfl) Tryd.func9 4 (by kernel_rfl) (by kernel_rfl) (by kernel_rfl) rfl laidOut (by kernel_rfl) (by kernel_rfl)
    (fun H ds h => by
      have h' : ds.length = 2 := h
      match ds, h' with
      | [d1, d2], _ => rfl)
    bitsetJoins_law glob_met
    (ChangeSpec.witness_shaped (enc := enc) (C := Tryd.checked) (os := os) (X := fun w _ => laidMetH Tryd.prog laid1 w) false (World.doorLaid Tryd.prog 14 os) #[.agg #[.int .i64 0, .slice none 0 0], .agg #[.int .i64 0, .slice none 0 0]] 8 rfl (World.shaped_of_RefB (by kernel_rfl) (by kernel_rfl)) (by kernel_rfl) (by kernel_rfl) (by kernel_rfl) (door_met os _))

theorem bitsetJoins_holds : Rows.BitsetJoinsSaid :=
  OpenClaim.holds_of_wide 9 Tryd.f9 rfl rfl rfl rfl rfl rfl rfl ⟨rfl, rfl, rfl, rfl, rfl⟩ rfl rfl rfl rfl rfl (by kernel_rfl) Tryd.func9 (by kernel_rfl)
    (of_decide_eq_true (by kernel_rfl)) (by unfold Func.isWrapper; first | (rw [if_pos (by decide +kernel)]; kernel_rfl) | (rw [if_neg (by decide +kernel)]; exact ⟨rfl, rfl⟩))
    (fun os started H enc _ => bitsetJoins_lifted os started H enc)

theorem bitsetJoins_proved : Rows.BitsetJoinsCardSaid :=
  Claim7.holds_tied_plain_at .later [] [.data] true (true, "891f1ce135852dfe333b1dc95d781bd321c36d814566a7b3cde446406ec796be") false
    bitsetJoins_holds (fun _ h => by cases h) (by kernel_rfl) (fun _ h => by cases h) bitsetJoins_row_tie rfl ⟨rfl, rfl⟩ (by kernel_rfl) rfl
    (fun f fn hf hfn => by
      obtain rfl : f = 9 := Option.some.inj ((show Tryd.prog.funcNamed "estovers/estoverslaw01.BitsetJoins" = some 9 by kernel_rfl).symm.trans hf) |>.symm
      obtain rfl : fn = Tryd.f9 := (Option.some.inj (Tryd.func9.symm.trans hfn)).symm
      exact ⟨by kernel_rfl, fun j t ht => by
        have hm : t ∈ [24, 24] := by
          have e : Tryd.f9.params.toList = [24, 24] := by kernel_rfl
          rw [← e]
          exact Array.mem_toList_iff.2 (Array.mem_of_getElem? ht)
        have hall : ([24, 24].all fun u => !Tryd.prog.wantsStandIn u) = true := by kernel_rfl
        exact (show Tryd.prog.wantsStandIn t = false by simpa using List.all_eq_true.1 hall t hm)⟩)
    (by kernel_rfl)
#print axioms bitsetJoins_proved
end Go.Proofs.YtigpifiechkfkaaDoor

