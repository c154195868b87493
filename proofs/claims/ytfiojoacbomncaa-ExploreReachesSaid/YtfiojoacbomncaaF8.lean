/- Own work over the model of the kit. -/
import Derived.Test.YtfiojoacbomncaaF7
set_option linter.unusedSimpArgs false
set_option linter.unusedVariables false
namespace Go.AM
open Go
section
variable {P : Program}
def litR (v v0 : Value) : Prop := v = v0 ∨ ∃ q n n0, v = .int q n ∧ v0 = .int q n0 ∧ inR q n
def litsR (cs cs0 : List Value) : Prop := cs.length = cs0.length ∧ ∀ (i : Nat) (v v0 : Value), cs[i]? = some v → cs0[i]? = some v0 → litR v v0
def numsD : List D → List D → Prop
 | [], [] => True
 | .int q n :: r, .int q0 n0 :: r0 => q = q0 ∧ inR q n ∧ numsD r r0
 | _, _ => False
end
end Go.AM

