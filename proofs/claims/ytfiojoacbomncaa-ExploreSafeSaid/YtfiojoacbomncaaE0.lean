/- Own work over the model of the kit. -/
import Derived.Test.YtfiojoacbomncaaD21
set_option linter.unusedSimpArgs false
set_option linter.unusedVariables false
set_option linter.constructorNameAsVariable false
set_option maxRecDepth 8000
set_option maxHeartbeats 4000000
namespace Go.AM
open Go Go.Proofs
theorem byte_arg {m : Nat} {d : D} (h : argT Try.prog (m + 1) 5 d) : ∃ a : Nat, d = byteD a ∧ a < 256 := by
 obtain ⟨n, rfl, hn⟩ := arg_int (k := .u8) (by kernel_rfl) h
 have := inR_u8.1 hn
 refine ⟨n.toNat, ?_, by omega⟩
 show D.int .u8 n = D.int .u8 (n.toNat : Int)
 rw [Int.toNat_of_nonneg this.1]
end Go.AM
