/- BitsetMorgan: for any two sets of bits, the complement of the conjunction is the disjunction of the complements, and the complement of the complement is the set itself; the statement's call returns true and leaves its arguments as they were. The one listed package variable (the table of math/bits) is tied to the program's text. -/
import Derived.Test.YtigpifiechkfkaaDoorLawB
import Derived.Test.YtigpifiechkfkaaDoorDoor
set_option linter.unusedVariables false

namespace Go.Proofs.YtigpifiechkfkaaDoor
open Go Go.AM Go.ChangeShapes Go.WideShapes Go.ChangeAt Go.RowKit

theorem bitsetMorgan_law : LawAt Tryd.prog 10 9 Tryd.f10.params.toList := by
  intro xs hx
  have hx' : argsT Tryd.prog 9 [24, 24] xs := hx
  obtain ⟨d0, r0, rfl, h0, hx1⟩ := hx'
  obtain ⟨d1, r1, rfl, h1, rfl⟩ := hx1
  obtain ⟨sa, wa, rfl, hoa⟩ := bits_arg h0
  obtain ⟨sb, wb, rfl, hob⟩ := bits_arg h1
  exact ⟨morganR, morgan_ok, sa, wa, sb, wb, rfl, hoa, hob, rfl⟩

set_option maxRecDepth 100000 in
theorem bitsetMorgan_lifted (os : Os) (started : os.Started) (H : Type) (enc : TypeId × Value → H) :
    ReturnsInHanded {} Tryd.checked os 10 .any (fun w args => (Rows.bitsetMorganSpec.pre enc Tryd.prog Tryd.f10 [] false w args ∧ laidMetH Tryd.prog laid1 w) ∧ sizedMet enc Tryd.prog Tryd.f10 (OpenSpec.ofChange Rows.bitsetMorganSpec) false w args) (Rows.bitsetMorganSpec.post enc Tryd.prog Tryd.f10 false true false false) :=
  law_lifted_laid (C := Tryd.checked) (s := Rows.bitsetMorganSpec) laid1 9 own started (by kernel_rfl) Tryd.func10 4 (by kernel_rfl) (by kernel_rfl) (by kernel_rfl) rfl laidOut (by kernel_rfl) (by kernel_rfl)
    (fun H ds h => by
      have h' : ds.length = 2 := h
      match ds, h' with
      | [d1, d2], _ => rfl)
    bitsetMorgan_law glob_met
    (ChangeSpec.witness_shaped (enc := enc) (C := Tryd.checked) (os := os) (X := fun w _ => laidMetH Tryd.prog laid1 w) false (World.doorLaid Tryd.prog 14 os) #[.agg #[.int .i64 0, .slice none 0 0], .agg #[.int .i64 0, .slice none 0 0]] 8 rfl (World.shaped_of_RefB (by kernel_rfl) (by kernel_rfl)) (by kernel_rfl) (by kernel_rfl) (by kernel_rfl) (door_met os _))

theorem bitsetMorgan_holds : Rows.BitsetMorganSaid :=
  OpenClaim.holds_of_wide 10 Tryd.f10 rfl rfl rfl rfl rfl rfl rfl ⟨rfl, rfl, rfl, rfl, rfl⟩ rfl rfl rfl rfl rfl (by kernel_rfl) Tryd.func10 (by kernel_rfl)
    (of_decide_eq_true (by kernel_rfl)) (by unfold Func.isWrapper; first | (rw [if_pos (by decide +kernel)]; kernel_rfl) | (rw [if_neg (by decide +kernel)]; exact ⟨rfl, rfl⟩))
    (fun os started H enc _ => bitsetMorgan_lifted os started H enc)

theorem bitsetMorgan_proved : Rows.BitsetMorganCardSaid :=
  Claim7.holds_tied_plain_at .later [] [.data] true (true, "891f1ce135852dfe333b1dc95d781bd321c36d814566a7b3cde446406ec796be") false
    bitsetMorgan_holds (fun _ h => by cases h) (by kernel_rfl) (fun _ h => by cases h) bitsetMorgan_row_tie rfl ⟨rfl, rfl⟩ (by kernel_rfl) rfl
    (fun f fn hf hfn => by
      obtain rfl : f = 10 := Option.some.inj ((show Tryd.prog.funcNamed "estovers/estoverslaw01.BitsetMorgan" = some 10 by kernel_rfl).symm.trans hf) |>.symm
      obtain rfl : fn = Tryd.f10 := (Option.some.inj (Tryd.func10.symm.trans hfn)).symm
      exact ⟨by kernel_rfl, fun j t ht => by
        have hm : t ∈ [24, 24] := by
          have e : Tryd.f10.params.toList = [24, 24] := by kernel_rfl
          rw [← e]
          exact Array.mem_toList_iff.2 (Array.mem_of_getElem? ht)
        have hall : ([24, 24].all fun u => !Tryd.prog.wantsStandIn u) = true := by kernel_rfl
        exact (show Tryd.prog.wantsStandIn t = false by simpa using List.all_eq_true.1 hall t hm)⟩)
    (by kernel_rfl)
#print axioms bitsetMorgan_proved
end Go.Proofs.YtigpifiechkfkaaDoor

