/- What the examples of the law call: known calls. -/
import Derived.Test.YtcigeonmhefdhaaLibJ
import Derived.Test.YtcigeonmhefdhaaProg
import Derived.KernelRfl
set_option linter.unusedVariables false

set_option maxRecDepth 100000
namespace Go.AM
open Go Go.Proofs

theorem mixedP : Try.prog.follows .mixedOrders = true := by kernel_rfl
theorem names : Names Try.prog := by
  have h : (Try.prog.funcs.toList.all fun f => decide (f.name ≠ "runtime.NumGoroutine")) = true := by kernel_rfl
  intro g fn hf
  have := List.all_eq_true.1 h fn (List.mem_of_getElem? (by simpa using hf))
  simpa using this
end Go.AM

set_option maxRecDepth 100000
namespace Go.AM
open Go Go.Proofs
theorem ev1 : evalM Try.prog [] 1000 18 [(.agg [(.sl (some 3) [(.agg [(.str [102, 114, 97, 109, 101, 115]), (.int .i64 4), (.int .i64 1)])]), (.sl none [(.str [109, 97, 112])]), (.sl (some 4) [(.agg [(.str [102, 97, 117, 108, 116]), (.int .i64 2), (.bool false), (.sl (some 4) [(.agg [(.int .i64 3), (.int .i64 0), (.int .i64 0), (.bool false)]), (.agg [(.int .i64 1), (.int .i64 0), (.int .i64 1), (.bool false)]), (.agg [(.int .i64 1), (.int .i64 0), (.int .i64 1), (.bool false)]), (.agg [(.int .i64 5), (.int .i64 1), (.int .i64 0), (.bool false)]), (.agg [(.int .i64 2), (.int .i64 0), (.int .i64 2), (.bool false)]), (.agg [(.int .i64 4), (.int .i64 0), (.int .i64 0), (.bool false)])])]), (.agg [(.str [101, 118, 105, 99, 116]), (.int .i64 1), (.bool true), (.sl (some 4) [(.agg [(.int .i64 1), (.int .i64 0), (.int .i64 1), (.bool true)]), (.agg [(.int .i64 2), (.int .i64 0), (.int .i64 1), (.bool false)])])])])])] = some ((.tup [(.sl 0 0 4), (.dat (.int .i64 0))]), [(.row (some 4) [(.agg [(.int .i64 1), (.int .i64 0), (.int .i64 0), (.int .i64 1)]), (.agg [(.int .i64 0), (.int .i64 0), (.int .i64 0), (.int .i64 2)]), (.agg [(.int .i64 0), (.int .i64 3), (.int .i64 0), (.int .i64 3)]), (.agg [(.int .i64 1), (.int .i64 3), (.int .i64 0), (.int .i64 3)])])]) := by kernel_rfl
end Go.AM

set_option maxRecDepth 100000
namespace Go.AM
open Go Go.Proofs
theorem ev2 : evalM Try.prog [] 1000 18 [(.agg [(.sl (some 3) [(.agg [(.str [102, 114, 97, 109, 101, 115]), (.int .i64 4), (.int .i64 1)])]), (.sl none [(.str [109, 97, 112])]), (.sl (some 4) [(.agg [(.str [102, 97, 117, 108, 116]), (.int .i64 2), (.bool false), (.sl (some 4) [(.agg [(.int .i64 3), (.int .i64 0), (.int .i64 0), (.bool false)]), (.agg [(.int .i64 1), (.int .i64 0), (.int .i64 1), (.bool false)]), (.agg [(.int .i64 5), (.int .i64 1), (.int .i64 0), (.bool false)]), (.agg [(.int .i64 2), (.int .i64 0), (.int .i64 1), (.bool false)]), (.agg [(.int .i64 4), (.int .i64 0), (.int .i64 0), (.bool false)])])]), (.agg [(.str [101, 118, 105, 99, 116]), (.int .i64 1), (.bool true), (.sl (some 4) [(.agg [(.int .i64 1), (.int .i64 0), (.int .i64 1), (.bool true)]), (.agg [(.int .i64 2), (.int .i64 0), (.int .i64 1), (.bool false)])])])])])] = some ((.tup [(.sl 0 0 2), (.dat (.int .i64 0))]), [(.row (some 4) [(.agg [(.int .i64 0), (.int .i64 3), (.int .i64 0), (.int .i64 2)]), (.agg [(.int .i64 1), (.int .i64 3), (.int .i64 0), (.int .i64 2)])])]) := by kernel_rfl
end Go.AM

set_option maxRecDepth 100000
namespace Go.AM
open Go Go.Proofs
theorem ev3 : evalM Try.prog [] 1000 22 [(.int .i64 4), (.sl (some 4) [(.agg [(.int .i64 1), (.int .i64 0), (.int .i64 0), (.int .i64 1)]), (.agg [(.int .i64 0), (.int .i64 0), (.int .i64 0), (.int .i64 2)]), (.agg [(.int .i64 0), (.int .i64 3), (.int .i64 0), (.int .i64 3)]), (.agg [(.int .i64 1), (.int .i64 3), (.int .i64 0), (.int .i64 3)])])] = some ((.tup [(.sl 0 0 4), (.dat (.int .i64 0))]), [(.row none [(.int .i64 0), (.int .i64 1), (.int .i64 2), (.int .i64 3)])]) := by kernel_rfl
end Go.AM

set_option maxRecDepth 100000
namespace Go.AM
open Go Go.Proofs
theorem ev4 : evalM Try.prog [] 1000 23 [(.int .i64 4), (.sl (some 4) [(.agg [(.int .i64 1), (.int .i64 0), (.int .i64 0), (.int .i64 1)]), (.agg [(.int .i64 0), (.int .i64 0), (.int .i64 0), (.int .i64 2)]), (.agg [(.int .i64 0), (.int .i64 3), (.int .i64 0), (.int .i64 3)]), (.agg [(.int .i64 1), (.int .i64 3), (.int .i64 0), (.int .i64 3)])])] = some ((.tup [(.sl 0 0 1), (.dat (.int .i64 0))]), [(.row none [(.int .i64 1)])]) := by kernel_rfl
end Go.AM

set_option maxRecDepth 100000
namespace Go.AM
open Go Go.Proofs
theorem ev5 : evalM Try.prog [] 1000 24 [(.int .i64 4), (.sl (some 4) [(.agg [(.int .i64 1), (.int .i64 0), (.int .i64 0), (.int .i64 1)]), (.agg [(.int .i64 0), (.int .i64 0), (.int .i64 0), (.int .i64 2)]), (.agg [(.int .i64 0), (.int .i64 3), (.int .i64 0), (.int .i64 3)]), (.agg [(.int .i64 1), (.int .i64 3), (.int .i64 0), (.int .i64 3)])])] = some ((.tup [.nils, (.dat (.int .i64 10))]), []) := by kernel_rfl
end Go.AM

set_option maxRecDepth 100000
namespace Go.AM
open Go Go.Proofs
theorem ev6 : evalM Try.prog [] 1000 24 [(.int .i64 4), (.sl (some 4) [(.agg [(.int .i64 0), (.int .i64 3), (.int .i64 0), (.int .i64 2)]), (.agg [(.int .i64 1), (.int .i64 3), (.int .i64 0), (.int .i64 2)])])] = some ((.tup [(.sl 0 0 4), (.dat (.int .i64 0))]), [(.row none [(.int .i64 1), (.int .i64 1), (.int .i64 0), (.int .i64 0)])]) := by kernel_rfl
end Go.AM

set_option maxRecDepth 100000
namespace Go.AM
open Go Go.Proofs
def tabW1 : Tab := (18, [(.agg [(.sl (some 3) [(.agg [(.str [102, 114, 97, 109, 101, 115]), (.int .i64 4), (.int .i64 1)])]), (.sl none [(.str [109, 97, 112])]), (.sl (some 4) [(.agg [(.str [102, 97, 117, 108, 116]), (.int .i64 2), (.bool false), (.sl (some 4) [(.agg [(.int .i64 3), (.int .i64 0), (.int .i64 0), (.bool false)]), (.agg [(.int .i64 1), (.int .i64 0), (.int .i64 1), (.bool false)]), (.agg [(.int .i64 1), (.int .i64 0), (.int .i64 1), (.bool false)]), (.agg [(.int .i64 5), (.int .i64 1), (.int .i64 0), (.bool false)]), (.agg [(.int .i64 2), (.int .i64 0), (.int .i64 2), (.bool false)]), (.agg [(.int .i64 4), (.int .i64 0), (.int .i64 0), (.bool false)])])]), (.agg [(.str [101, 118, 105, 99, 116]), (.int .i64 1), (.bool true), (.sl (some 4) [(.agg [(.int .i64 1), (.int .i64 0), (.int .i64 1), (.bool true)]), (.agg [(.int .i64 2), (.int .i64 0), (.int .i64 1), (.bool false)])])])])])], (.tup [(.sl 0 0 4), (.dat (.int .i64 0))]), [(.row (some 4) [(.agg [(.int .i64 1), (.int .i64 0), (.int .i64 0), (.int .i64 1)]), (.agg [(.int .i64 0), (.int .i64 0), (.int .i64 0), (.int .i64 2)]), (.agg [(.int .i64 0), (.int .i64 3), (.int .i64 0), (.int .i64 3)]), (.agg [(.int .i64 1), (.int .i64 3), (.int .i64 0), (.int .i64 3)])])]) :: []
theorem tabW1_ok : Base Try.prog tabW1 := base_cons base_nil base_nil mixedP names 1000 ev1
def tabW2 : Tab := (18, [(.agg [(.sl (some 3) [(.agg [(.str [102, 114, 97, 109, 101, 115]), (.int .i64 4), (.int .i64 1)])]), (.sl none [(.str [109, 97, 112])]), (.sl (some 4) [(.agg [(.str [102, 97, 117, 108, 116]), (.int .i64 2), (.bool false), (.sl (some 4) [(.agg [(.int .i64 3), (.int .i64 0), (.int .i64 0), (.bool false)]), (.agg [(.int .i64 1), (.int .i64 0), (.int .i64 1), (.bool false)]), (.agg [(.int .i64 5), (.int .i64 1), (.int .i64 0), (.bool false)]), (.agg [(.int .i64 2), (.int .i64 0), (.int .i64 1), (.bool false)]), (.agg [(.int .i64 4), (.int .i64 0), (.int .i64 0), (.bool false)])])]), (.agg [(.str [101, 118, 105, 99, 116]), (.int .i64 1), (.bool true), (.sl (some 4) [(.agg [(.int .i64 1), (.int .i64 0), (.int .i64 1), (.bool true)]), (.agg [(.int .i64 2), (.int .i64 0), (.int .i64 1), (.bool false)])])])])])], (.tup [(.sl 0 0 2), (.dat (.int .i64 0))]), [(.row (some 4) [(.agg [(.int .i64 0), (.int .i64 3), (.int .i64 0), (.int .i64 2)]), (.agg [(.int .i64 1), (.int .i64 3), (.int .i64 0), (.int .i64 2)])])]) :: tabW1
theorem tabW2_ok : Base Try.prog tabW2 := base_cons tabW1_ok base_nil mixedP names 1000 ev2
def tabW3 : Tab := (22, [(.int .i64 4), (.sl (some 4) [(.agg [(.int .i64 1), (.int .i64 0), (.int .i64 0), (.int .i64 1)]), (.agg [(.int .i64 0), (.int .i64 0), (.int .i64 0), (.int .i64 2)]), (.agg [(.int .i64 0), (.int .i64 3), (.int .i64 0), (.int .i64 3)]), (.agg [(.int .i64 1), (.int .i64 3), (.int .i64 0), (.int .i64 3)])])], (.tup [(.sl 0 0 4), (.dat (.int .i64 0))]), [(.row none [(.int .i64 0), (.int .i64 1), (.int .i64 2), (.int .i64 3)])]) :: tabW2
theorem tabW3_ok : Base Try.prog tabW3 := base_cons tabW2_ok base_nil mixedP names 1000 ev3
def tabW4 : Tab := (23, [(.int .i64 4), (.sl (some 4) [(.agg [(.int .i64 1), (.int .i64 0), (.int .i64 0), (.int .i64 1)]), (.agg [(.int .i64 0), (.int .i64 0), (.int .i64 0), (.int .i64 2)]), (.agg [(.int .i64 0), (.int .i64 3), (.int .i64 0), (.int .i64 3)]), (.agg [(.int .i64 1), (.int .i64 3), (.int .i64 0), (.int .i64 3)])])], (.tup [(.sl 0 0 1), (.dat (.int .i64 0))]), [(.row none [(.int .i64 1)])]) :: tabW3
theorem tabW4_ok : Base Try.prog tabW4 := base_cons tabW3_ok base_nil mixedP names 1000 ev4
def tabW5 : Tab := (24, [(.int .i64 4), (.sl (some 4) [(.agg [(.int .i64 1), (.int .i64 0), (.int .i64 0), (.int .i64 1)]), (.agg [(.int .i64 0), (.int .i64 0), (.int .i64 0), (.int .i64 2)]), (.agg [(.int .i64 0), (.int .i64 3), (.int .i64 0), (.int .i64 3)]), (.agg [(.int .i64 1), (.int .i64 3), (.int .i64 0), (.int .i64 3)])])], (.tup [.nils, (.dat (.int .i64 10))]), []) :: tabW4
theorem tabW5_ok : Base Try.prog tabW5 := base_cons tabW4_ok base_nil mixedP names 1000 ev5
def tabW6 : Tab := (24, [(.int .i64 4), (.sl (some 4) [(.agg [(.int .i64 0), (.int .i64 3), (.int .i64 0), (.int .i64 2)]), (.agg [(.int .i64 1), (.int .i64 3), (.int .i64 0), (.int .i64 2)])])], (.tup [(.sl 0 0 4), (.dat (.int .i64 0))]), [(.row none [(.int .i64 1), (.int .i64 1), (.int .i64 0), (.int .i64 0)])]) :: tabW5
theorem tabW6_ok : Base Try.prog tabW6 := base_cons tabW5_ok base_nil mixedP names 1000 ev6
theorem awake_ev : evalF2 Try.prog tabW6 1000 10 [] = some (.dat (.bool true)) := by kernel_rfl
theorem awake_ok : OkF Try.prog 10 (dataC fun ds v => (ds, v) ∈ [(([] : List D), AV.dat (.bool true))]) := okF_eval2 tabW6_ok mixedP names 1000 _ (fun x hx => by
  simp only [List.mem_singleton] at hx
  subst hx
  exact awake_ev)
end Go.AM

namespace Go.AM
open Go Go.Proofs

abbrev awakeR : List D → AV → Prop := fun ds v => (ds, v) ∈ [(([] : List D), AV.dat (.bool true))]
theorem awakeR_true : awakeR [] (.dat (.bool true)) := by simp [awakeR]
end Go.AM

