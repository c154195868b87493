/-
  No cell of these rows narrows 'for every input' (looked for: loops, veiled, ifaces, maps, wideKeys, modest, calm, conditions, laid).
  DERIVED. THE GIVEN ROWS OF THIS SEAT. 6 by the template 'for every input the law returns true; each argument reads behind the call as it read before'; 0 by the template 'total and deterministic' (their statements: YteblpegdedojdaaTotals.lean).
  GIVEN WITH THE SEED: the statements are not yours to turn. If you find one false, say at which input.
  Laid BY PROGRAM, IN A SANDBOX (cutbox-rows.mjs): the forced cells as the released guide's own fill.sh prints them over the translation 40d66cc94b75b84c… (all of the seat's roots in one cut). By AI agents, Wed Nov 11 2026. No macro, syntax, notation, axiom, sorry.
-/
import Derived.Test.YteblpegdedojdaaChecked
import GoSem.Claim
import GoSem.ClaimJoined
import GoSem.ClaimMapViews
import Derived.JoinedTies
import Derived.KernelRfl
namespace Go.Proofs.Yteblpegdedojdaa
/- THE CELL 'sum', in the pinned program and in every row, IS THE sha256 OF THE DUMP (.gsa) THAT YteblpegdedojdaaProg.lean LOADS. Nothing in Lean hashes anything: it is a label: what it is worth is what the hold of that sum in a sandbox is worth. -/
noncomputable def Try.pinned : Pinned := { name := "yteblpegdedojdaa", sum := "40d66cc94b75b84c9025d30264045fc961ead7a544f19c1e91054123e14d9b6c", checked := Try.checked }
namespace Rows
def none {H : Type} : Left H := { results := [], args := [] }

/-- 'estoverslaw14.PercpuChecks': WHATEVER THE INPUT: true; the input reads as it did. -/
def percpuChecksSpec : ChangeSpec := { name := "percpuChecks", fn := fun _ => fun
  | [d1, d2, d3] => { results := [.lit (.bool true)], args := [d1, d2, d3] }
  | _ => none }
def percpuChecksRow : OpenClaim := { program := "yteblpegdedojdaa", sum := "40d66cc94b75b84c9025d30264045fc961ead7a544f19c1e91054123e14d9b6c", func := "estovers/estoverslaw14.PercpuChecks", spec := "percpuChecks", apart := false }
def PercpuChecksSaid : Prop := percpuChecksRow.holds Try.pinned (OpenSpec.ofChange percpuChecksSpec)

/-- ITS FALSE NEIGHBOUR: 'it returns false'. Refute it at one input. -/
def percpuChecksWrong : ChangeSpec := { name := "percpuChecks", fn := fun _ => fun
  | [d1, d2, d3] => { results := [.lit (.bool false)], args := [d1, d2, d3] }
  | _ => none }
def PercpuChecksWrongFalsely : Prop := percpuChecksRow.holds Try.pinned (OpenSpec.ofChange percpuChecksWrong)

/-- 'estoverslaw14.PercpuTakes': WHATEVER THE INPUT: true; the input reads as it did. -/
def percpuTakesSpec : ChangeSpec := { name := "percpuTakes", fn := fun _ => fun
  | [d1, d2] => { results := [.lit (.bool true)], args := [d1, d2] }
  | _ => none }
def percpuTakesRow : OpenClaim := { program := "yteblpegdedojdaa", sum := "40d66cc94b75b84c9025d30264045fc961ead7a544f19c1e91054123e14d9b6c", func := "estovers/estoverslaw14.PercpuTakes", spec := "percpuTakes", apart := false }
def PercpuTakesSaid : Prop := percpuTakesRow.holds Try.pinned (OpenSpec.ofChange percpuTakesSpec)

/-- ITS FALSE NEIGHBOUR: 'it returns false'. Refute it at one input. -/
def percpuTakesWrong : ChangeSpec := { name := "percpuTakes", fn := fun _ => fun
  | [d1, d2] => { results := [.lit (.bool false)], args := [d1, d2] }
  | _ => none }
def PercpuTakesWrongFalsely : Prop := percpuTakesRow.holds Try.pinned (OpenSpec.ofChange percpuTakesWrong)

/-- 'estoverslaw14.PercpuPuts': WHATEVER THE INPUT: true; the input reads as it did. -/
def percpuPutsSpec : ChangeSpec := { name := "percpuPuts", fn := fun _ => fun
  | [d1, d2] => { results := [.lit (.bool true)], args := [d1, d2] }
  | _ => none }
def percpuPutsRow : OpenClaim := { program := "yteblpegdedojdaa", sum := "40d66cc94b75b84c9025d30264045fc961ead7a544f19c1e91054123e14d9b6c", func := "estovers/estoverslaw14.PercpuPuts", spec := "percpuPuts", apart := false }
def PercpuPutsSaid : Prop := percpuPutsRow.holds Try.pinned (OpenSpec.ofChange percpuPutsSpec)

/-- ITS FALSE NEIGHBOUR: 'it returns false'. Refute it at one input. -/
def percpuPutsWrong : ChangeSpec := { name := "percpuPuts", fn := fun _ => fun
  | [d1, d2] => { results := [.lit (.bool false)], args := [d1, d2] }
  | _ => none }
def PercpuPutsWrongFalsely : Prop := percpuPutsRow.holds Try.pinned (OpenSpec.ofChange percpuPutsWrong)

/-- 'estoverslaw14.PercpuRefills': WHATEVER THE INPUT: true; the input reads as it did. -/
def percpuRefillsSpec : ChangeSpec := { name := "percpuRefills", fn := fun _ => fun
  | [d1, d2, d3] => { results := [.lit (.bool true)], args := [d1, d2, d3] }
  | _ => none }
def percpuRefillsRow : OpenClaim := { program := "yteblpegdedojdaa", sum := "40d66cc94b75b84c9025d30264045fc961ead7a544f19c1e91054123e14d9b6c", func := "estovers/estoverslaw14.PercpuRefills", spec := "percpuRefills", apart := false }
def PercpuRefillsSaid : Prop := percpuRefillsRow.holds Try.pinned (OpenSpec.ofChange percpuRefillsSpec)

/-- ITS FALSE NEIGHBOUR: 'it returns false'. Refute it at one input. -/
def percpuRefillsWrong : ChangeSpec := { name := "percpuRefills", fn := fun _ => fun
  | [d1, d2, d3] => { results := [.lit (.bool false)], args := [d1, d2, d3] }
  | _ => none }
def PercpuRefillsWrongFalsely : Prop := percpuRefillsRow.holds Try.pinned (OpenSpec.ofChange percpuRefillsWrong)

/-- 'estoverslaw14.PercpuLifo': WHATEVER THE INPUT: true; the input reads as it did. -/
def percpuLifoSpec : ChangeSpec := { name := "percpuLifo", fn := fun _ => fun
  | [d1, d2, d3] => { results := [.lit (.bool true)], args := [d1, d2, d3] }
  | _ => none }
def percpuLifoRow : OpenClaim := { program := "yteblpegdedojdaa", sum := "40d66cc94b75b84c9025d30264045fc961ead7a544f19c1e91054123e14d9b6c", func := "estovers/estoverslaw14.PercpuLifo", spec := "percpuLifo", apart := false }
def PercpuLifoSaid : Prop := percpuLifoRow.holds Try.pinned (OpenSpec.ofChange percpuLifoSpec)

/-- ITS FALSE NEIGHBOUR: 'it returns false'. Refute it at one input. -/
def percpuLifoWrong : ChangeSpec := { name := "percpuLifo", fn := fun _ => fun
  | [d1, d2, d3] => { results := [.lit (.bool false)], args := [d1, d2, d3] }
  | _ => none }
def PercpuLifoWrongFalsely : Prop := percpuLifoRow.holds Try.pinned (OpenSpec.ofChange percpuLifoWrong)

/-- 'estoverslaw14.PercpuKeeps': WHATEVER THE INPUT: true; the input reads as it did. -/
def percpuKeepsSpec : ChangeSpec := { name := "percpuKeeps", fn := fun _ => fun
  | [d1, d2] => { results := [.lit (.bool true)], args := [d1, d2] }
  | _ => none }
def percpuKeepsRow : OpenClaim := { program := "yteblpegdedojdaa", sum := "40d66cc94b75b84c9025d30264045fc961ead7a544f19c1e91054123e14d9b6c", func := "estovers/estoverslaw14.PercpuKeeps", spec := "percpuKeeps", apart := false }
def PercpuKeepsSaid : Prop := percpuKeepsRow.holds Try.pinned (OpenSpec.ofChange percpuKeepsSpec)

/-- ITS FALSE NEIGHBOUR: 'it returns false'. Refute it at one input. -/
def percpuKeepsWrong : ChangeSpec := { name := "percpuKeeps", fn := fun _ => fun
  | [d1, d2] => { results := [.lit (.bool false)], args := [d1, d2] }
  | _ => none }
def PercpuKeepsWrongFalsely : Prop := percpuKeepsRow.holds Try.pinned (OpenSpec.ofChange percpuKeepsWrong)

/- THE SECOND FORM. 'bulk': how many values and letters a reading holds, each counted each time it is reached (what is shared counts as often as it is met; a slice's spare places count too). A statement '..UptoSaid' is the law's where the arguments, and the package variables that the reading takes, are together of bulk at most 1048576: NARROWER than '..Said'. Prove '..Said' where nothing that the law and all that it calls make is longer than what came in: it says more and counts as full. Else prove '..UptoSaid'. A law counts once. -/
mutual
def uptoBulk {H : Type} : DataW H → Nat
  | .lit (.string bytes) => bytes.length + 1
  | .lit _ => 1
  | .nil => 1
  | .ptr d => uptoBulk d + 1
  | .slice elems spare => uptoBulkAll elems + uptoBulkAll spare + 1
  | .agg parts => uptoBulkAll parts + 1
  | .iface _ d => uptoBulk d + 1
  | .map entries => uptoBulkEntries entries + 1
  | .held _ => 1
def uptoBulkAll {H : Type} : List (DataW H) → Nat
  | [] => 0
  | d :: r => uptoBulk d + uptoBulkAll r
def uptoBulkEntries {H : Type} : List (Lit × DataW H) → Nat
  | [] => 0
  | x :: r => uptoBulkEntry x + uptoBulkEntries r
def uptoBulkEntry {H : Type} : Lit × DataW H → Nat
  | (.string bytes, d) => bytes.length + uptoBulk d + 1
  | (_, d) => uptoBulk d + 1
 end
def uptoSmall : (H : Type) → List (DataW H) → Bool := fun _ ds => decide (uptoBulkAll ds ≤ 1048576)
def OpenSpec.upto (s : _root_.Go.ChangeSpec) : _root_.Go.OpenSpec := { _root_.Go.OpenSpec.ofChange s with cond := some uptoSmall }

/-- 'estoverslaw14.PercpuChecks', WHERE WHAT IT READS IS OF BULK AT MOST 1048576: true; the input reads as it did. -/
def percpuChecksUptoRow : OpenClaim := { program := "yteblpegdedojdaa", sum := "40d66cc94b75b84c9025d30264045fc961ead7a544f19c1e91054123e14d9b6c", func := "estovers/estoverslaw14.PercpuChecks", spec := "percpuChecks", apart := false, narrowed := true }
def PercpuChecksUptoSaid : Prop := percpuChecksUptoRow.holds Try.pinned (OpenSpec.upto percpuChecksSpec)

/-- 'estoverslaw14.PercpuTakes', WHERE WHAT IT READS IS OF BULK AT MOST 1048576: true; the input reads as it did. -/
def percpuTakesUptoRow : OpenClaim := { program := "yteblpegdedojdaa", sum := "40d66cc94b75b84c9025d30264045fc961ead7a544f19c1e91054123e14d9b6c", func := "estovers/estoverslaw14.PercpuTakes", spec := "percpuTakes", apart := false, narrowed := true }
def PercpuTakesUptoSaid : Prop := percpuTakesUptoRow.holds Try.pinned (OpenSpec.upto percpuTakesSpec)

/-- 'estoverslaw14.PercpuPuts', WHERE WHAT IT READS IS OF BULK AT MOST 1048576: true; the input reads as it did. -/
def percpuPutsUptoRow : OpenClaim := { program := "yteblpegdedojdaa", sum := "40d66cc94b75b84c9025d30264045fc961ead7a544f19c1e91054123e14d9b6c", func := "estovers/estoverslaw14.PercpuPuts", spec := "percpuPuts", apart := false, narrowed := true }
def PercpuPutsUptoSaid : Prop := percpuPutsUptoRow.holds Try.pinned (OpenSpec.upto percpuPutsSpec)

/-- 'estoverslaw14.PercpuRefills', WHERE WHAT IT READS IS OF BULK AT MOST 1048576: true; the input reads as it did. -/
def percpuRefillsUptoRow : OpenClaim := { program := "yteblpegdedojdaa", sum := "40d66cc94b75b84c9025d30264045fc961ead7a544f19c1e91054123e14d9b6c", func := "estovers/estoverslaw14.PercpuRefills", spec := "percpuRefills", apart := false, narrowed := true }
def PercpuRefillsUptoSaid : Prop := percpuRefillsUptoRow.holds Try.pinned (OpenSpec.upto percpuRefillsSpec)

/-- 'estoverslaw14.PercpuLifo', WHERE WHAT IT READS IS OF BULK AT MOST 1048576: true; the input reads as it did. -/
def percpuLifoUptoRow : OpenClaim := { program := "yteblpegdedojdaa", sum := "40d66cc94b75b84c9025d30264045fc961ead7a544f19c1e91054123e14d9b6c", func := "estovers/estoverslaw14.PercpuLifo", spec := "percpuLifo", apart := false, narrowed := true }
def PercpuLifoUptoSaid : Prop := percpuLifoUptoRow.holds Try.pinned (OpenSpec.upto percpuLifoSpec)

/-- 'estoverslaw14.PercpuKeeps', WHERE WHAT IT READS IS OF BULK AT MOST 1048576: true; the input reads as it did. -/
def percpuKeepsUptoRow : OpenClaim := { program := "yteblpegdedojdaa", sum := "40d66cc94b75b84c9025d30264045fc961ead7a544f19c1e91054123e14d9b6c", func := "estovers/estoverslaw14.PercpuKeeps", spec := "percpuKeeps", apart := false, narrowed := true }
def PercpuKeepsUptoSaid : Prop := percpuKeepsUptoRow.holds Try.pinned (OpenSpec.upto percpuKeepsSpec)

end Rows
end Go.Proofs.Yteblpegdedojdaa
