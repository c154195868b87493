/- PercpuPuts: for every cache and PutOp, Put of percpu returns what the reference returns, and the statement's call returns true and leaves its arguments as they were. No condition. -/
import Derived.Test.YteblpegdedojdaaWalksB
import Derived.Test.YteblpegdedojdaaRows
set_option linter.unusedVariables false

namespace Go.Proofs.Yteblpegdedojdaa
open Go Go.AM Go.ChangeShapes Go.WideShapes Go.ChangeAt Go.RowKit

theorem own : ownKnob Try.prog.godebug = none := by kernel_rfl
theorem laidOut : laidOutB Try.prog = true := by kernel_rfl

theorem put_arg {m : Nat} {d : D} (h : argT Try.prog (m + 4) 40 d) : ∃ z f b h : Int, d = .agg [.int .i64 z, .int .i64 f, .int .i64 b, .int .i64 h] := by
  obtain ⟨ds, rfl, hf⟩ := arg_fields (ts := [3, 3, 3, 3]) (by kernel_rfl) h
  obtain ⟨a, r0, rfl, ha, b, r1, rfl, hb, c, r2, rfl, hc, e, r3, rfl, he, rfl⟩ := hf
  rw [dataT_int (k := .i64) (by kernel_rfl)] at ha
  obtain ⟨z1, rfl, _⟩ := ha
  rw [dataT_int (k := .i64) (by kernel_rfl)] at hb
  obtain ⟨f1, rfl, _⟩ := hb
  rw [dataT_int (k := .i64) (by kernel_rfl)] at hc
  obtain ⟨b1, rfl, _⟩ := hc
  rw [dataT_int (k := .i64) (by kernel_rfl)] at he
  obtain ⟨h1, rfl, _⟩ := he
  exact ⟨z1, f1, b1, h1, rfl⟩

theorem puts_law : LawAt Try.prog 5 9 Try.f5.params.toList := by
  intro xs hx
  have hx' : argsT Try.prog 9 [24, 40] xs := hx
  obtain ⟨d0, r0, rfl, h0, hx1⟩ := hx'
  obtain ⟨d1, r1, rfl, h1, rfl⟩ := hx1
  obtain ⟨L, rfl⟩ := cpu_arg h0
  obtain ⟨z, f, b, h, rfl⟩ := put_arg h1
  exact ⟨putsR, puts_ok, L, z, f, b, h, rfl, rfl⟩

set_option maxRecDepth 100000 in
theorem puts_lifted (os : Os) (started : os.Started) (H : Type) (enc : TypeId × Value → H) :
    ReturnsInHanded {} Try.checked os 5 .any (Rows.percpuPutsSpec.pre6 enc Try.prog Try.f5 Rows.percpuPutsRow.domain false) (Rows.percpuPutsSpec.post enc Try.prog Try.f5 false true false false) :=
  law_lifted (C := Try.checked) (s := Rows.percpuPutsSpec) 9 own started (by kernel_rfl) Try.func5 4 (by kernel_rfl) (by kernel_rfl) (by kernel_rfl) rfl laidOut (by kernel_rfl) (by kernel_rfl)
    (fun H ds h => by
      have h' : ds.length = 2 := h
      match ds, h' with
      | [d1, d2], _ => rfl)
    puts_law
    (ChangeSpec.witness6 (enc := enc) (C := Try.checked) false ⟨#[], #[.agg #[.slice none 0 0], .agg #[.int .i64 0, .int .i64 0, .int .i64 0, .int .i64 0]], []⟩ 8 (by kernel_rfl) (by kernel_rfl) (by kernel_rfl) (by kernel_rfl))

theorem percpuPuts_proved : Rows.PercpuPutsSaid :=
  OpenClaim.holds_of_wide 5 Try.f5 rfl rfl rfl rfl rfl rfl rfl ⟨rfl, rfl, rfl, rfl, rfl⟩ rfl rfl rfl rfl rfl (by kernel_rfl) Try.func5 (by kernel_rfl)
    (of_decide_eq_true (by kernel_rfl)) (by unfold Func.isWrapper; first | (rw [if_pos (by decide +kernel)]; kernel_rfl) | (rw [if_neg (by decide +kernel)]; exact ⟨rfl, rfl⟩))
    (fun os started H enc _ => puts_lifted os started H enc)
#print axioms percpuPuts_proved
end Go.Proofs.Yteblpegdedojdaa

