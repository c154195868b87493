/- What all cards of the seat bitset share: the listed table is what the program's door lays, and what a world that meets the condition gives the walks. -/
import Derived.Test.YtigpifiechkfkaaDoorLawA
import Derived.Test.YtigpifiechkfkaaDoorLibH
import Derived.Test.YtigpifiechkfkaaDoorTie
import Derived.Test.YtigpifiechkfkaaDoorCards
set_option linter.unusedSimpArgs false
set_option linter.unusedVariables false
namespace Go.AM
open Go Go.Proofs

theorem want42 : wantT Tryd.prog 42 = none := by kernel_rfl
theorem int_arg {m : Nat} {d : D} (h : argT Tryd.prog (m + 1) 3 d) : ∃ n : Int, d = .int .i64 n ∧ inR .i64 n := arg_int (by kernel_rfl) h
theorem bool_arg {m : Nat} {d : D} (h : argT Tryd.prog (m + 1) 4 d) : ∃ b : Bool, d = .bool b := arg_bool (by kernel_rfl) h
theorem two_arg {m : Nat} {d : D} (h : argT Tryd.prog (m + 2) 33 d) : ∃ a b : Int, d = .agg [.int .i64 a, .int .i64 b] := by
  obtain ⟨ds, h1, rfl⟩ := h
  rw [dataT_array (k := 2) (e := 3) (by kernel_rfl)] at h1
  obtain ⟨a, r, rfl, ha, h2⟩ := h1
  obtain ⟨b, r', rfl, hb, h3⟩ := h2
  have h3' : r' = [] := h3
  subst h3'
  rw [dataT_int (k := .i64) (by kernel_rfl)] at ha hb
  obtain ⟨x, rfl, _⟩ := ha
  obtain ⟨y, rfl, _⟩ := hb
  have hag : aggT Tryd.prog 33 = true := by kernel_rfl
  exact ⟨x, y, by simp [packD, hag]⟩
/-- A set of any make. -/
theorem bits_arg {m : Nat} {d : D} (h : argT Tryd.prog (m + 4) 24 d) : ∃ (sz : Int) (ws : List Nat), d = bitsD sz ws ∧ Ok64 ws := by
  obtain ⟨ds, rfl, hf⟩ := arg_fields (ts := [3, 22]) (by kernel_rfl) h
  obtain ⟨a, b, rfl, ha, hb⟩ := hf
  obtain ⟨c, e, rfl, hc, rfl⟩ := hb
  rw [dataT_int (k := .i64) (by kernel_rfl)] at ha
  obtain ⟨sz, rfl, _⟩ := ha
  rw [dataT_slice (e := 42) (by kernel_rfl), want42] at hc
  obtain ⟨xs, rfl, _, hx⟩ := hc
  obtain ⟨ws, rfl, hq⟩ := list_of (fun w : Nat => D.int .u64 (w : Int)) (Q := fun w => w < 18446744073709551616) (fun x hx' => by
    obtain ⟨n, rfl, hn⟩ := arg_int (k := .u64) (by kernel_rfl) (hx x hx')
    have := inR_u64.1 hn
    exact ⟨n.toNat, by congr 1; omega, by omega⟩)
  exact ⟨sz, ws, rfl, hq⟩

/-- The listed table. -/
def deBruijn : List Int := [0, 1, 56, 2, 57, 49, 28, 3, 61, 58, 42, 50, 38, 29, 17, 4, 62, 47, 59, 36, 45, 43, 51, 22, 53, 39, 33, 30, 24, 18, 12, 5, 63, 55, 48, 27, 60, 41, 37, 16, 46, 35, 44, 21, 52, 32, 23, 11, 54, 26, 40, 15, 34, 20, 31, 10, 25, 14, 19, 9, 13, 8, 7, 6]
theorem deBruijn_tab : (deBruijn.map (D.int .u8)) = Lib.deBruijn64tab.map fun n : Nat => D.int .u8 (n : Int) := by rfl
theorem glob_ok {w : World} {laid : List (String × DataW Unit)} {ps : List MemPlace} {d : DataW Unit} (hd : d = .agg (deBruijn.map fun z => .lit (.int .u8 z))) (h : DataW.LaidVars Tryd.prog w (("math/bits.deBruijn64tab", d) :: laid) ps) : GlobOk (fun b => b < w.heap.size) w := by
  obtain ⟨⟨cs, h1, h2, h3, h4⟩, _⟩ := glob_array (g := 0) (t := 54) (e := 5) (n := 64) (k := .u8) (ns := deBruijn) h hd (by kernel_rfl) (by kernel_rfl) (by kernel_rfl) (by kernel_rfl) (by kernel_rfl) (by kernel_rfl) (by decide)
  intro g ag d' hg
  unfold globs at hg
  split at hg
  · simp only [Option.some.injEq, Prod.mk.injEq] at hg
    obtain ⟨rfl, rfl⟩ := hg
    exact ⟨cs, h1, h2, h3, rfl, by rw [← deBruijn_tab]; exact h4⟩
  · cases hg
end Go.AM


namespace Go.Proofs.YtigpifiechkfkaaDoor
open Go Go.AM Go.ChangeShapes Go.WideShapes Go.ChangeAt Go.RowKit

theorem own : ownKnob Tryd.prog.godebug = none := by kernel_rfl
theorem laidOut : laidOutB Tryd.prog = true := by kernel_rfl
abbrev laid1 : List (String × DataW Unit) := [("math/bits.deBruijn64tab", Rows.laid_math_bits_deBruijn64tab)]
theorem glob_met (w : World) (h : laidMetH Tryd.prog laid1 w) : GlobOk (fun b => b < w.heap.size) w := by
  rw [MakeChecks.laidMetH_plain _ _ _ (by kernel_rfl)] at h
  obtain ⟨ps, hl, _⟩ := h
  exact glob_ok rfl hl
theorem door_met (os : Os) (args : Array Value) : laidMetH Tryd.prog laid1 ((World.doorLaid Tryd.prog 14 os).forCall (fun _ _ => 0) ⟨#[], args, []⟩).memory :=
  laidMetH_of_parts3 (fuel := 8) (laidMet_of_run' 8 (by kernel_rfl) (by kernel_rfl)) (by kernel_rfl) (by kernel_rfl)
end Go.Proofs.YtigpifiechkfkaaDoor

