/-
  AM36: more operations for the walks: comparisons of truth values and of texts.
  Own work over the kit's model. Generic over the program.
-/
import Derived.Test.YtigpifiechkfkaaDoorLibE
set_option linter.unusedSimpArgs false
set_option linter.unusedVariables false

namespace Go.AM
open Go
section
variable {P : Program} {t : TypeId} {K : AV → Prop}
@[go_sem] theorem bin_eqlB {a b : Bool} : binTop P .eql t (.dat (.bool a)) (.dat (.bool b)) K = (eqTy (tyOf P t) (.dat (.bool a)) = true ∧ K (.dat (.bool (a == b)))) := rfl
@[go_sem] theorem bin_neqB {a b : Bool} : binTop P .neq t (.dat (.bool a)) (.dat (.bool b)) K = (eqTy (tyOf P t) (.dat (.bool a)) = true ∧ K (.dat (.bool (!(a == b))))) := rfl
@[go_sem] theorem bin_eqlS {a b : List UInt8} : binTop P .eql t (.dat (.str a)) (.dat (.str b)) K = K (.dat (.bool (decide (a = b)))) := by simp [binTop, eqTy, binw]
@[go_sem] theorem bin_neqS {a b : List UInt8} : binTop P .neq t (.dat (.str a)) (.dat (.str b)) K = K (.dat (.bool (!decide (a = b)))) := by simp [binTop, eqTy, binw]
@[go_sem] theorem bin_addS {a b : List UInt8} : binTop P .add t (.dat (.str a)) (.dat (.str b)) K = (a.length + b.length ≤ maxLen ∧ K (.dat (.str (a ++ b)))) := by simp [binTop, eqTy, binw]
@[go_sem] theorem eqTy_boolD {τ : Ty} {a : Bool} : eqTy (some τ) (.dat (.bool a)) = (match τ.desc with | .bool => true | _ => false) := rfl
@[go_sem] theorem beq_tt : (true == true) = true := rfl
@[go_sem] theorem beq_ff : (false == false) = true := rfl
@[go_sem] theorem beq_tf : (true == false) = false := rfl
@[go_sem] theorem beq_ft : (false == true) = false := rfl
end
end Go.AM

