/- Own work over the model of the kit. -/
import Derived.Test.YtholibdhogbobaaC7
import Derived.Test.YtholibdhogbobaaC4
set_option linter.constructorNameAsVariable false
set_option linter.unusedVariables false
set_option maxRecDepth 100000
namespace Go.AM
open Go Go.Proofs

abbrev byteD (a : Nat) : D := .int .u8 (a : Int)
theorem byte_arg {m : Nat} {d : D} (h : argT Try.prog (m + 1) 5 d) : ∃ a : Nat, d = byteD a ∧ a < 256 := by
  obtain ⟨n, rfl, hn⟩ := arg_int (k := .u8) (by kernel_rfl) h
  have := inR_u8.1 hn
  refine ⟨n.toNat, ?_, by omega⟩
  show D.int .u8 n = D.int .u8 (n.toNat : Int)
  rw [Int.toNat_of_nonneg this.1]
end Go.AM

