/- PercpuKeeps: for every number of zones and every script of puts and takes: a frame that was put and not taken lies in exactly one list, and no list is longer than the greatest limit used. No condition. -/
import Derived.Test.YteblpegdedojdaaWalksC
import Derived.Test.YteblpegdedojdaaRows
set_option linter.unusedVariables false

namespace Go.Proofs.Yteblpegdedojdaa
open Go Go.AM Go.ChangeShapes Go.WideShapes Go.ChangeAt Go.RowKit

theorem own : ownKnob Try.prog.godebug = none := by kernel_rfl
theorem laidOut : laidOutB Try.prog = true := by kernel_rfl
theorem op_arg {m : Nat} {d : D} (h : argT Try.prog (m + 4) 40 d) : ∃ o : Int × Int × Int × Int, d = opD o := by
  obtain ⟨ds, rfl, hf⟩ := arg_fields (ts := [3, 3, 3, 3]) (by kernel_rfl) h
  obtain ⟨a, r0, rfl, ha, b, r1, rfl, hb, c, r2, rfl, hc, e, r3, rfl, he, rfl⟩ := hf
  rw [dataT_int (k := .i64) (by kernel_rfl)] at ha hb hc he
  obtain ⟨z1, rfl, _⟩ := ha
  obtain ⟨f1, rfl, _⟩ := hb
  obtain ⟨b1, rfl, _⟩ := hc
  obtain ⟨h1, rfl, _⟩ := he
  exact ⟨(z1, f1, b1, h1), rfl⟩
theorem script_arg {m : Nat} {d : D} (h : argT Try.prog (m + 5) 45 d) : ∃ xs : Script, d = .sl (wantT Try.prog 40) (xs.map opD) ∧ xs.length ≤ maxLen := by
  obtain ⟨xs, rfl, hl, hx⟩ := arg_slice (e := 40) (by kernel_rfl) h
  obtain ⟨l, rfl, _⟩ := list_of opD (Q := fun _ => True) (fun x hx' => by
    obtain ⟨o, ho⟩ := op_arg (hx x hx')
    exact ⟨o, ho, trivial⟩)
  exact ⟨l, rfl, by simpa using hl⟩

theorem percpuKeeps_law : LawAt Try.prog 8 9 Try.f8.params.toList := by
  intro xs hx
  have hx' : argsT Try.prog 9 [3,45] xs := hx
  obtain ⟨d0, r0, rfl, h0, hx1⟩ := hx'
  obtain ⟨d1, r1, rfl, h1, rfl⟩ := hx1
  obtain ⟨z, rfl, _⟩ := int_arg h0
  obtain ⟨xs, rfl, hm⟩ := script_arg h1
  exact ⟨keepsR, keeps_ok, z, xs, rfl, hm, rfl⟩

set_option maxRecDepth 100000 in
theorem percpuKeeps_lifted (os : Os) (started : os.Started) (H : Type) (enc : TypeId × Value → H) :
    ReturnsInHanded {} Try.checked os 8 .any (Rows.percpuKeepsSpec.pre6 enc Try.prog Try.f8 Rows.percpuKeepsRow.domain false) (Rows.percpuKeepsSpec.post enc Try.prog Try.f8 false true false false) :=
  law_lifted (C := Try.checked) (s := Rows.percpuKeepsSpec) 9 own started (by kernel_rfl) Try.func8 4 (by kernel_rfl) (by kernel_rfl) (by kernel_rfl) rfl laidOut (by kernel_rfl) (by kernel_rfl)
    (fun H ds h => by
      have h' : ds.length = 2 := h
      match ds, h' with
      | [d1, d2], _ => rfl)
    percpuKeeps_law
    (ChangeSpec.witness6 (enc := enc) (C := Try.checked) false ⟨#[], #[.int .i64 0, .slice none 0 0], []⟩ 8 (by kernel_rfl) (by kernel_rfl) (by kernel_rfl) (by kernel_rfl))

theorem percpuKeeps_proved : Rows.PercpuKeepsSaid :=
  OpenClaim.holds_of_wide 8 Try.f8 rfl rfl rfl rfl rfl rfl rfl ⟨rfl, rfl, rfl, rfl, rfl⟩ rfl rfl rfl rfl rfl (by kernel_rfl) Try.func8 (by kernel_rfl)
    (of_decide_eq_true (by kernel_rfl)) (by unfold Func.isWrapper; first | (rw [if_pos (by decide +kernel)]; kernel_rfl) | (rw [if_neg (by decide +kernel)]; exact ⟨rfl, rfl⟩))
    (fun os started H enc _ => percpuKeeps_lifted os started H enc)
#print axioms percpuKeeps_proved
end Go.Proofs.Yteblpegdedojdaa

