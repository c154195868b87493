/- BitsetChecks: for every set of bits and every size, New and Check of bitset return what the reference returns, and the statement's call returns true and leaves its arguments as they were. The one listed package variable (the table of math/bits) is tied to the program's text. -/
import Derived.Test.YtigpifiechkfkaaDoorLawA
import Derived.Test.YtigpifiechkfkaaDoorDoor
set_option linter.unusedVariables false

namespace Go.Proofs.YtigpifiechkfkaaDoor
open Go Go.AM Go.ChangeShapes Go.WideShapes Go.ChangeAt Go.RowKit

theorem bitsetChecks_law : LawAt Tryd.prog 3 9 Tryd.f3.params.toList := by
  intro xs hx
  have hx' : argsT Tryd.prog 9 [24, 3] xs := hx
  obtain ⟨d0, r0, rfl, h0, hx1⟩ := hx'
  obtain ⟨d1, r1, rfl, h1, rfl⟩ := hx1
  obtain ⟨sz, ws, rfl, ho⟩ := bits_arg h0
  obtain ⟨n, rfl, _⟩ := int_arg h1
  exact ⟨checksR, checks_ok, sz, ws, n, rfl, ho, rfl⟩

set_option maxRecDepth 100000 in
theorem bitsetChecks_lifted (os : Os) (started : os.Started) (H : Type) (enc : TypeId × Value → H) :
    ReturnsInHanded {} Tryd.checked os 3 .any (fun w args => (Rows.bitsetChecksSpec.pre enc Tryd.prog Tryd.f3 [] false w args ∧ laidMetH Tryd.prog laid1 w) ∧ sizedMet enc Tryd.prog Tryd.f3 (OpenSpec.ofChange Rows.bitsetChecksSpec) false w args) (Rows.bitsetChecksSpec.post enc Tryd.prog Tryd.f3 false true false false) :=
  law_lifted_laid (C := Tryd.checked) (s := Rows.bitsetChecksSpec) laid1 9 own started (by kernel_rfl) Tryd.func3 4 (by kernel_rfl) (by kernel_rfl) (by kernel_rfl) rfl laidOut (by kernel_rfl) (by kernel_rfl)
    (fun H ds h => by
      have h' : ds.length = 2 := h
      match ds, h' with
      | [d1, d2], _ => rfl)
    bitsetChecks_law glob_met
    (ChangeSpec.witness_shaped (enc := enc) (C := Tryd.checked) (os := os) (X := fun w _ => laidMetH Tryd.prog laid1 w) false (World.doorLaid Tryd.prog 14 os) #[.agg #[.int .i64 0, .slice none 0 0], .int .i64 0] 8 rfl (World.shaped_of_RefB (by kernel_rfl) (by kernel_rfl)) (by kernel_rfl) (by kernel_rfl) (by kernel_rfl) (door_met os _))

theorem bitsetChecks_holds : Rows.BitsetChecksSaid :=
  OpenClaim.holds_of_wide 3 Tryd.f3 rfl rfl rfl rfl rfl rfl rfl ⟨rfl, rfl, rfl, rfl, rfl⟩ rfl rfl rfl rfl rfl (by kernel_rfl) Tryd.func3 (by kernel_rfl)
    (of_decide_eq_true (by kernel_rfl)) (by unfold Func.isWrapper; first | (rw [if_pos (by decide +kernel)]; kernel_rfl) | (rw [if_neg (by decide +kernel)]; exact ⟨rfl, rfl⟩))
    (fun os started H enc _ => bitsetChecks_lifted os started H enc)

theorem bitsetChecks_proved : Rows.BitsetChecksCardSaid :=
  Claim7.holds_tied_plain_at .later [] [.data] true (true, "891f1ce135852dfe333b1dc95d781bd321c36d814566a7b3cde446406ec796be") false
    bitsetChecks_holds (fun _ h => by cases h) (by kernel_rfl) (fun _ h => by cases h) bitsetChecks_row_tie rfl ⟨rfl, rfl⟩ (by kernel_rfl) rfl
    (fun f fn hf hfn => by
      obtain rfl : f = 3 := Option.some.inj ((show Tryd.prog.funcNamed "estovers/estoverslaw01.BitsetChecks" = some 3 by kernel_rfl).symm.trans hf) |>.symm
      obtain rfl : fn = Tryd.f3 := (Option.some.inj (Tryd.func3.symm.trans hfn)).symm
      exact ⟨by kernel_rfl, fun j t ht => by
        have hm : t ∈ [24, 3] := by
          have e : Tryd.f3.params.toList = [24, 3] := by kernel_rfl
          rw [← e]
          exact Array.mem_toList_iff.2 (Array.mem_of_getElem? ht)
        have hall : ([24, 3].all fun u => !Tryd.prog.wantsStandIn u) = true := by kernel_rfl
        exact (show Tryd.prog.wantsStandIn t = false by simpa using List.all_eq_true.1 hall t hm)⟩)
    (by kernel_rfl)
#print axioms bitsetChecks_proved
end Go.Proofs.YtigpifiechkfkaaDoor

