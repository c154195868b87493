/- BitsetFills: for every set of bits, range and value, Fill returns what the reference returns, and the statement's call returns true and leaves its arguments as they were. The one listed package variable (the table of math/bits) is tied to the program's text. -/
import Derived.Test.YtigpifiechkfkaaDoorLawA
import Derived.Test.YtigpifiechkfkaaDoorDoor
set_option linter.unusedVariables false

namespace Go.Proofs.YtigpifiechkfkaaDoor
open Go Go.AM Go.ChangeShapes Go.WideShapes Go.ChangeAt Go.RowKit

theorem bitsetFills_law : LawAt Tryd.prog 5 9 Tryd.f5.params.toList := by
  intro xs hx
  have hx' : argsT Tryd.prog 9 [24, 33, 4] xs := hx
  obtain ⟨d0, r0, rfl, h0, hx1⟩ := hx'
  obtain ⟨d1, r1, rfl, h1, hx2⟩ := hx1
  obtain ⟨d2, r2, rfl, h2, rfl⟩ := hx2
  obtain ⟨sz, ws, rfl, ho⟩ := bits_arg h0
  obtain ⟨a, b, rfl⟩ := two_arg h1
  obtain ⟨on, rfl⟩ := bool_arg h2
  exact ⟨fillsR, fills_ok, sz, ws, a, b, on, rfl, ho, rfl⟩

set_option maxRecDepth 100000 in
theorem bitsetFills_lifted (os : Os) (started : os.Started) (H : Type) (enc : TypeId × Value → H) :
    ReturnsInHanded {} Tryd.checked os 5 .any (fun w args => (Rows.bitsetFillsSpec.pre enc Tryd.prog Tryd.f5 [] false w args ∧ laidMetH Tryd.prog laid1 w) ∧ sizedMet enc Tryd.prog Tryd.f5 (OpenSpec.ofChange Rows.bitsetFillsSpec) false w args) (Rows.bitsetFillsSpec.post enc Tryd.prog Tryd.f5 false true false false) :=
  law_lifted_laid (C := Tryd.checked) (s := Rows.bitsetFillsSpec) laid1 9 own started (by kernel_rfl) Tryd.func5 4 (by kernel_rfl) (by kernel_rfl) (by kernel_rfl) rfl laidOut (by kernel_rfl) (by kernel_rfl)
    (fun H ds h => by
      have h' : ds.length = 3 := h
      match ds, h' with
      | [d1, d2, d3], _ => rfl)
    bitsetFills_law glob_met
    (ChangeSpec.witness_shaped (enc := enc) (C := Tryd.checked) (os := os) (X := fun w _ => laidMetH Tryd.prog laid1 w) false (World.doorLaid Tryd.prog 14 os) #[.agg #[.int .i64 0, .slice none 0 0], .agg #[.int .i64 0, .int .i64 0], .bool false] 8 rfl (World.shaped_of_RefB (by kernel_rfl) (by kernel_rfl)) (by kernel_rfl) (by kernel_rfl) (by kernel_rfl) (door_met os _))

theorem bitsetFills_holds : Rows.BitsetFillsSaid :=
  OpenClaim.holds_of_wide 5 Tryd.f5 rfl rfl rfl rfl rfl rfl rfl ⟨rfl, rfl, rfl, rfl, rfl⟩ rfl rfl rfl rfl rfl (by kernel_rfl) Tryd.func5 (by kernel_rfl)
    (of_decide_eq_true (by kernel_rfl)) (by unfold Func.isWrapper; first | (rw [if_pos (by decide +kernel)]; kernel_rfl) | (rw [if_neg (by decide +kernel)]; exact ⟨rfl, rfl⟩))
    (fun os started H enc _ => bitsetFills_lifted os started H enc)

theorem bitsetFills_proved : Rows.BitsetFillsCardSaid :=
  Claim7.holds_tied_plain_at .later [] [.data] true (true, "891f1ce135852dfe333b1dc95d781bd321c36d814566a7b3cde446406ec796be") false
    bitsetFills_holds (fun _ h => by cases h) (by kernel_rfl) (fun _ h => by cases h) bitsetFills_row_tie rfl ⟨rfl, rfl⟩ (by kernel_rfl) rfl
    (fun f fn hf hfn => by
      obtain rfl : f = 5 := Option.some.inj ((show Tryd.prog.funcNamed "estovers/estoverslaw01.BitsetFills" = some 5 by kernel_rfl).symm.trans hf) |>.symm
      obtain rfl : fn = Tryd.f5 := (Option.some.inj (Tryd.func5.symm.trans hfn)).symm
      exact ⟨by kernel_rfl, fun j t ht => by
        have hm : t ∈ [24, 33, 4] := by
          have e : Tryd.f5.params.toList = [24, 33, 4] := by kernel_rfl
          rw [← e]
          exact Array.mem_toList_iff.2 (Array.mem_of_getElem? ht)
        have hall : ([24, 33, 4].all fun u => !Tryd.prog.wantsStandIn u) = true := by kernel_rfl
        exact (show Tryd.prog.wantsStandIn t = false by simpa using List.all_eq_true.1 hall t hm)⟩)
    (by kernel_rfl)
#print axioms bitsetFills_proved
end Go.Proofs.YtigpifiechkfkaaDoor

