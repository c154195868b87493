/- ProgramLines: the text of a program line by line. No condition but that the listed tables read as laid. -/
import Derived.Test.YtenlakaideefbaaDoorD21
set_option linter.unnecessarySimpa false
set_option linter.unusedVariables false

namespace Go.Proofs.YtenlakaideefbaaDoor
open Go Go.AM Go.ChangeShapes Go.WideShapes Go.ChangeAt Go.RowKit
theorem programLines_law : LawAt Tryd.prog 9 9 Tryd.f9.params.toList := by
 intro xs hx
 have hx' : argsT Tryd.prog 9 [22] xs := hx
 obtain ⟨d0, r0, rfl, h0, rfl⟩ := hx'
 obtain ⟨c, rfl, hc⟩ := code_arg h0
 exact ⟨lawCR, lawLines_ok, c, rfl, hc, rfl⟩
set_option maxRecDepth 100000 in
theorem programLines_lifted (os : Os) (started : os.Started) (H : Type) (enc : TypeId × Value -> H) :
  ReturnsInHanded {} Tryd.checked os 9 .any (fun w args => (Rows.programLinesSpec.pre enc Tryd.prog Tryd.f9 [] false w args /\ laidMetH Tryd.prog laid1 w) /\ sizedMet enc Tryd.prog Tryd.f9 (OpenSpec.ofChange Rows.programLinesSpec) false w args) (Rows.programLinesSpec.post enc Tryd.prog Tryd.f9 false true false false) :=
 law_lifted_laid (C := Tryd.checked) (s := Rows.programLinesSpec) laid1 9 own started (by kernel_rfl) Tryd.func9 4 (by kernel_rfl) (by kernel_rfl) (by kernel_rfl) rfl laidOut (by kernel_rfl) (by kernel_rfl)
  (fun H ds h => by
   have h' : ds.length = 1 := h
   match ds, h' with
   | [d1], _ => rfl)
  programLines_law glob_met
  (ChangeSpec.witness_shaped (enc := enc) (C := Tryd.checked) (os := os) (X := fun w _ => laidMetH Tryd.prog laid1 w) false (World.laidAll Tryd.prog os laid1) #[.slice none 0 0] 8 (World.laidAll_os _ _ _) (shaped_laid os) (by kernel_rfl) (by kernel_rfl) (by kernel_rfl) (door_met os _))
theorem programLines_holds : Rows.ProgramLinesSaid :=
 OpenClaim.holds_of_wide 9 Tryd.f9 rfl rfl rfl rfl rfl rfl rfl ⟨rfl, rfl, rfl, rfl, rfl⟩ rfl rfl rfl rfl rfl (by kernel_rfl) Tryd.func9 (by kernel_rfl)
  (of_decide_eq_true (by kernel_rfl)) (by unfold Func.isWrapper; first | (rw [if_pos (by decide +kernel)]; kernel_rfl) | (rw [if_neg (by decide +kernel)]; exact ⟨rfl, rfl⟩))
  (fun os started H enc _ => programLines_lifted os started H enc)
theorem programLines_proved : Rows.ProgramLinesCardSaid :=
 Claim7.holds_tied_plain_at .later [] [.data, .data, .data, .data, .pinned] true (true, "9459d833ef018cf8a0f364d05f166f536e158a87b9517e27c76caf625baf2073") false
  programLines_holds (fun _ h => by cases h) (by kernel_rfl) (fun _ h => by cases h) programLines_row_tie rfl ⟨rfl, rfl⟩ (by kernel_rfl) rfl
  (fun f fn hf hfn => by
   obtain rfl : f = 9 := Option.some.inj ((show Tryd.prog.funcNamed "estovers/estoverslaw45.ProgramLines" = some 9 by kernel_rfl).symm.trans hf) |>.symm
   obtain rfl : fn = Tryd.f9 := (Option.some.inj (Tryd.func9.symm.trans hfn)).symm
   exact ⟨by kernel_rfl, fun j t ht => by
    have hm : t ∈ [22] := by
     have e : Tryd.f9.params.toList = [22] := by kernel_rfl
     rw [← e]
     exact Array.mem_toList_iff.2 (Array.mem_of_getElem? ht)
    have hall : ([22].all fun u => !Tryd.prog.wantsStandIn u) = true := by kernel_rfl
    exact (show Tryd.prog.wantsStandIn t = false by simpa using List.all_eq_true.1 hall t hm)⟩)
  (by kernel_rfl)
#print axioms programLines_proved
end Go.Proofs.YtenlakaideefbaaDoor

