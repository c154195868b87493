/-
  No cell of these rows narrows 'for every input' (looked for: loops, veiled, ifaces, maps, wideKeys, modest, calm, conditions, laid).
  DERIVED. THE GIVEN ROWS OF THIS SEAT. 7 by the template 'for every input the law returns true; each argument reads behind the call as it read before'; 0 by the template 'total and deterministic' (their statements: YtcigeonmhefdhaaTotals.lean).
  GIVEN WITH THE SEED: the statements are not yours to turn. If you find one false, say at which input.
  Laid BY PROGRAM, IN A SANDBOX (cutbox-rows.mjs): the forced cells as the released guide's own fill.sh prints them over the translation 7732f712df3a83ee… (all of the seat's roots in one cut). By AI agents, Wed Nov 11 2026. No macro, syntax, notation, axiom, sorry.
-/
import Derived.Test.YtcigeonmhefdhaaChecked
import GoSem.Claim
import GoSem.ClaimJoined
import GoSem.ClaimMapViews
import Derived.JoinedTies
import Derived.KernelRfl
namespace Go.Proofs.Ytcigeonmhefdhaa
/- THE CELL 'sum', in the pinned program and in every row, IS THE sha256 OF THE DUMP (.gsa) THAT YtcigeonmhefdhaaProg.lean LOADS. Nothing in Lean hashes anything: it is a label: what it is worth is what the hold of that sum in a sandbox is worth. -/
noncomputable def Try.pinned : Pinned := { name := "ytcigeonmhefdhaa", sum := "7732f712df3a83ee63243c0e80bfb27cd137fc9b8f6c5dd15beab35d868e26a9", checked := Try.checked }
namespace Rows
def none {H : Type} : Left H := { results := [], args := [] }

/-- 'estoverslaw42.WaitgraphDemands': WHATEVER THE INPUT: true; the input reads as it did. -/
def waitgraphDemandsSpec : ChangeSpec := { name := "waitgraphDemands", fn := fun _ => fun
  | [d1, d2, d3] => { results := [.lit (.bool true)], args := [d1, d2, d3] }
  | _ => none }
def waitgraphDemandsRow : OpenClaim := { program := "ytcigeonmhefdhaa", sum := "7732f712df3a83ee63243c0e80bfb27cd137fc9b8f6c5dd15beab35d868e26a9", func := "estovers/estoverslaw42.WaitgraphDemands", spec := "waitgraphDemands", unfollowed := true, recurses := true, plainKeys := false, apart := false }
def WaitgraphDemandsSaid : Prop := waitgraphDemandsRow.holds Try.pinned (OpenSpec.ofChange waitgraphDemandsSpec)

/-- ITS FALSE NEIGHBOUR: 'it returns false'. Refute it at one input. -/
def waitgraphDemandsWrong : ChangeSpec := { name := "waitgraphDemands", fn := fun _ => fun
  | [d1, d2, d3] => { results := [.lit (.bool false)], args := [d1, d2, d3] }
  | _ => none }
def WaitgraphDemandsWrongFalsely : Prop := waitgraphDemandsRow.holds Try.pinned (OpenSpec.ofChange waitgraphDemandsWrong)

/-- 'estoverslaw42.WaitgraphEdges': WHATEVER THE INPUT: true; the input reads as it did. -/
def waitgraphEdgesSpec : ChangeSpec := { name := "waitgraphEdges", fn := fun _ => fun
  | [d] => { results := [.lit (.bool true)], args := [d] }
  | _ => none }
def waitgraphEdgesRow : OpenClaim := { program := "ytcigeonmhefdhaa", sum := "7732f712df3a83ee63243c0e80bfb27cd137fc9b8f6c5dd15beab35d868e26a9", func := "estovers/estoverslaw42.WaitgraphEdges", spec := "waitgraphEdges", unfollowed := true, recurses := true, plainKeys := false, apart := false }
def WaitgraphEdgesSaid : Prop := waitgraphEdgesRow.holds Try.pinned (OpenSpec.ofChange waitgraphEdgesSpec)

/-- ITS FALSE NEIGHBOUR: 'it returns false'. Refute it at one input. -/
def waitgraphEdgesWrong : ChangeSpec := { name := "waitgraphEdges", fn := fun _ => fun
  | [d] => { results := [.lit (.bool false)], args := [d] }
  | _ => none }
def WaitgraphEdgesWrongFalsely : Prop := waitgraphEdgesRow.holds Try.pinned (OpenSpec.ofChange waitgraphEdgesWrong)

/-- 'estoverslaw42.WaitgraphGraphs': WHATEVER THE INPUT: true; the input reads as it did. -/
def waitgraphGraphsSpec : ChangeSpec := { name := "waitgraphGraphs", fn := fun _ => fun
  | [d1, d2] => { results := [.lit (.bool true)], args := [d1, d2] }
  | _ => none }
def waitgraphGraphsRow : OpenClaim := { program := "ytcigeonmhefdhaa", sum := "7732f712df3a83ee63243c0e80bfb27cd137fc9b8f6c5dd15beab35d868e26a9", func := "estovers/estoverslaw42.WaitgraphGraphs", spec := "waitgraphGraphs", unfollowed := true, recurses := true, plainKeys := false, apart := false }
def WaitgraphGraphsSaid : Prop := waitgraphGraphsRow.holds Try.pinned (OpenSpec.ofChange waitgraphGraphsSpec)

/-- ITS FALSE NEIGHBOUR: 'it returns false'. Refute it at one input. -/
def waitgraphGraphsWrong : ChangeSpec := { name := "waitgraphGraphs", fn := fun _ => fun
  | [d1, d2] => { results := [.lit (.bool false)], args := [d1, d2] }
  | _ => none }
def WaitgraphGraphsWrongFalsely : Prop := waitgraphGraphsRow.holds Try.pinned (OpenSpec.ofChange waitgraphGraphsWrong)

/-- 'estoverslaw42.WaitgraphCycles': WHATEVER THE INPUT: true; the input reads as it did. -/
def waitgraphCyclesSpec : ChangeSpec := { name := "waitgraphCycles", fn := fun _ => fun
  | [d1, d2] => { results := [.lit (.bool true)], args := [d1, d2] }
  | _ => none }
def waitgraphCyclesRow : OpenClaim := { program := "ytcigeonmhefdhaa", sum := "7732f712df3a83ee63243c0e80bfb27cd137fc9b8f6c5dd15beab35d868e26a9", func := "estovers/estoverslaw42.WaitgraphCycles", spec := "waitgraphCycles", unfollowed := true, recurses := true, plainKeys := false, apart := false }
def WaitgraphCyclesSaid : Prop := waitgraphCyclesRow.holds Try.pinned (OpenSpec.ofChange waitgraphCyclesSpec)

/-- ITS FALSE NEIGHBOUR: 'it returns false'. Refute it at one input. -/
def waitgraphCyclesWrong : ChangeSpec := { name := "waitgraphCycles", fn := fun _ => fun
  | [d1, d2] => { results := [.lit (.bool false)], args := [d1, d2] }
  | _ => none }
def WaitgraphCyclesWrongFalsely : Prop := waitgraphCyclesRow.holds Try.pinned (OpenSpec.ofChange waitgraphCyclesWrong)

/-- 'estoverslaw42.WaitgraphLevels': WHATEVER THE INPUT: true; the input reads as it did. -/
def waitgraphLevelsSpec : ChangeSpec := { name := "waitgraphLevels", fn := fun _ => fun
  | [d1, d2] => { results := [.lit (.bool true)], args := [d1, d2] }
  | _ => none }
def waitgraphLevelsRow : OpenClaim := { program := "ytcigeonmhefdhaa", sum := "7732f712df3a83ee63243c0e80bfb27cd137fc9b8f6c5dd15beab35d868e26a9", func := "estovers/estoverslaw42.WaitgraphLevels", spec := "waitgraphLevels", unfollowed := true, recurses := true, plainKeys := false, apart := false }
def WaitgraphLevelsSaid : Prop := waitgraphLevelsRow.holds Try.pinned (OpenSpec.ofChange waitgraphLevelsSpec)

/-- ITS FALSE NEIGHBOUR: 'it returns false'. Refute it at one input. -/
def waitgraphLevelsWrong : ChangeSpec := { name := "waitgraphLevels", fn := fun _ => fun
  | [d1, d2] => { results := [.lit (.bool false)], args := [d1, d2] }
  | _ => none }
def WaitgraphLevelsWrongFalsely : Prop := waitgraphLevelsRow.holds Try.pinned (OpenSpec.ofChange waitgraphLevelsWrong)

/-- 'estoverslaw42.WaitgraphComponents': WHATEVER THE INPUT: true; the input reads as it did. -/
def waitgraphComponentsSpec : ChangeSpec := { name := "waitgraphComponents", fn := fun _ => fun
  | [d1, d2] => { results := [.lit (.bool true)], args := [d1, d2] }
  | _ => none }
def waitgraphComponentsRow : OpenClaim := { program := "ytcigeonmhefdhaa", sum := "7732f712df3a83ee63243c0e80bfb27cd137fc9b8f6c5dd15beab35d868e26a9", func := "estovers/estoverslaw42.WaitgraphComponents", spec := "waitgraphComponents", unfollowed := true, recurses := true, plainKeys := false, apart := false }
def WaitgraphComponentsSaid : Prop := waitgraphComponentsRow.holds Try.pinned (OpenSpec.ofChange waitgraphComponentsSpec)

/-- ITS FALSE NEIGHBOUR: 'it returns false'. Refute it at one input. -/
def waitgraphComponentsWrong : ChangeSpec := { name := "waitgraphComponents", fn := fun _ => fun
  | [d1, d2] => { results := [.lit (.bool false)], args := [d1, d2] }
  | _ => none }
def WaitgraphComponentsWrongFalsely : Prop := waitgraphComponentsRow.holds Try.pinned (OpenSpec.ofChange waitgraphComponentsWrong)

/-- 'estoverslaw42.WaitgraphHolds': WHATEVER THE INPUT: true; the input reads as it did. -/
def waitgraphHoldsSpec : ChangeSpec := { name := "waitgraphHolds", fn := fun _ => fun
  | [d] => { results := [.lit (.bool true)], args := [d] }
  | _ => none }
def waitgraphHoldsRow : OpenClaim := { program := "ytcigeonmhefdhaa", sum := "7732f712df3a83ee63243c0e80bfb27cd137fc9b8f6c5dd15beab35d868e26a9", func := "estovers/estoverslaw42.WaitgraphHolds", spec := "waitgraphHolds", unfollowed := true, recurses := true, plainKeys := false, apart := false }
def WaitgraphHoldsSaid : Prop := waitgraphHoldsRow.holds Try.pinned (OpenSpec.ofChange waitgraphHoldsSpec)

/-- ITS FALSE NEIGHBOUR: 'it returns false'. Refute it at one input. -/
def waitgraphHoldsWrong : ChangeSpec := { name := "waitgraphHolds", fn := fun _ => fun
  | [d] => { results := [.lit (.bool false)], args := [d] }
  | _ => none }
def WaitgraphHoldsWrongFalsely : Prop := waitgraphHoldsRow.holds Try.pinned (OpenSpec.ofChange waitgraphHoldsWrong)

/- THE SECOND FORM. 'bulk': how many values and letters a reading holds, each counted each time it is reached (what is shared counts as often as it is met; a slice's spare places count too). A statement '..UptoSaid' is the law's where the arguments, and the package variables that the reading takes, are together of bulk at most 1048576: NARROWER than '..Said'. Prove '..Said' where nothing that the law and all that it calls make is longer than what came in: it says more and counts as full. Else prove '..UptoSaid'. A law counts once. -/
mutual
def uptoBulk {H : Type} : DataW H → Nat
  | .lit (.string bytes) => bytes.length + 1
  | .lit _ => 1
  | .nil => 1
  | .ptr d => uptoBulk d + 1
  | .slice elems spare => uptoBulkAll elems + uptoBulkAll spare + 1
  | .agg parts => uptoBulkAll parts + 1
  | .iface _ d => uptoBulk d + 1
  | .map entries => uptoBulkEntries entries + 1
  | .held _ => 1
def uptoBulkAll {H : Type} : List (DataW H) → Nat
  | [] => 0
  | d :: r => uptoBulk d + uptoBulkAll r
def uptoBulkEntries {H : Type} : List (Lit × DataW H) → Nat
  | [] => 0
  | x :: r => uptoBulkEntry x + uptoBulkEntries r
def uptoBulkEntry {H : Type} : Lit × DataW H → Nat
  | (.string bytes, d) => bytes.length + uptoBulk d + 1
  | (_, d) => uptoBulk d + 1
 end
def uptoSmall : (H : Type) → List (DataW H) → Bool := fun _ ds => decide (uptoBulkAll ds ≤ 1048576)
def OpenSpec.upto (s : _root_.Go.ChangeSpec) : _root_.Go.OpenSpec := { _root_.Go.OpenSpec.ofChange s with cond := some uptoSmall }

/-- 'estoverslaw42.WaitgraphDemands', WHERE WHAT IT READS IS OF BULK AT MOST 1048576: true; the input reads as it did. -/
def waitgraphDemandsUptoRow : OpenClaim := { program := "ytcigeonmhefdhaa", sum := "7732f712df3a83ee63243c0e80bfb27cd137fc9b8f6c5dd15beab35d868e26a9", func := "estovers/estoverslaw42.WaitgraphDemands", spec := "waitgraphDemands", unfollowed := true, recurses := true, plainKeys := false, apart := false, narrowed := true }
def WaitgraphDemandsUptoSaid : Prop := waitgraphDemandsUptoRow.holds Try.pinned (OpenSpec.upto waitgraphDemandsSpec)

/-- 'estoverslaw42.WaitgraphEdges', WHERE WHAT IT READS IS OF BULK AT MOST 1048576: true; the input reads as it did. -/
def waitgraphEdgesUptoRow : OpenClaim := { program := "ytcigeonmhefdhaa", sum := "7732f712df3a83ee63243c0e80bfb27cd137fc9b8f6c5dd15beab35d868e26a9", func := "estovers/estoverslaw42.WaitgraphEdges", spec := "waitgraphEdges", unfollowed := true, recurses := true, plainKeys := false, apart := false, narrowed := true }
def WaitgraphEdgesUptoSaid : Prop := waitgraphEdgesUptoRow.holds Try.pinned (OpenSpec.upto waitgraphEdgesSpec)

/-- 'estoverslaw42.WaitgraphGraphs', WHERE WHAT IT READS IS OF BULK AT MOST 1048576: true; the input reads as it did. -/
def waitgraphGraphsUptoRow : OpenClaim := { program := "ytcigeonmhefdhaa", sum := "7732f712df3a83ee63243c0e80bfb27cd137fc9b8f6c5dd15beab35d868e26a9", func := "estovers/estoverslaw42.WaitgraphGraphs", spec := "waitgraphGraphs", unfollowed := true, recurses := true, plainKeys := false, apart := false, narrowed := true }
def WaitgraphGraphsUptoSaid : Prop := waitgraphGraphsUptoRow.holds Try.pinned (OpenSpec.upto waitgraphGraphsSpec)

/-- 'estoverslaw42.WaitgraphCycles', WHERE WHAT IT READS IS OF BULK AT MOST 1048576: true; the input reads as it did. -/
def waitgraphCyclesUptoRow : OpenClaim := { program := "ytcigeonmhefdhaa", sum := "7732f712df3a83ee63243c0e80bfb27cd137fc9b8f6c5dd15beab35d868e26a9", func := "estovers/estoverslaw42.WaitgraphCycles", spec := "waitgraphCycles", unfollowed := true, recurses := true, plainKeys := false, apart := false, narrowed := true }
def WaitgraphCyclesUptoSaid : Prop := waitgraphCyclesUptoRow.holds Try.pinned (OpenSpec.upto waitgraphCyclesSpec)

/-- 'estoverslaw42.WaitgraphLevels', WHERE WHAT IT READS IS OF BULK AT MOST 1048576: true; the input reads as it did. -/
def waitgraphLevelsUptoRow : OpenClaim := { program := "ytcigeonmhefdhaa", sum := "7732f712df3a83ee63243c0e80bfb27cd137fc9b8f6c5dd15beab35d868e26a9", func := "estovers/estoverslaw42.WaitgraphLevels", spec := "waitgraphLevels", unfollowed := true, recurses := true, plainKeys := false, apart := false, narrowed := true }
def WaitgraphLevelsUptoSaid : Prop := waitgraphLevelsUptoRow.holds Try.pinned (OpenSpec.upto waitgraphLevelsSpec)

/-- 'estoverslaw42.WaitgraphComponents', WHERE WHAT IT READS IS OF BULK AT MOST 1048576: true; the input reads as it did. -/
def waitgraphComponentsUptoRow : OpenClaim := { program := "ytcigeonmhefdhaa", sum := "7732f712df3a83ee63243c0e80bfb27cd137fc9b8f6c5dd15beab35d868e26a9", func := "estovers/estoverslaw42.WaitgraphComponents", spec := "waitgraphComponents", unfollowed := true, recurses := true, plainKeys := false, apart := false, narrowed := true }
def WaitgraphComponentsUptoSaid : Prop := waitgraphComponentsUptoRow.holds Try.pinned (OpenSpec.upto waitgraphComponentsSpec)

/-- 'estoverslaw42.WaitgraphHolds', WHERE WHAT IT READS IS OF BULK AT MOST 1048576: true; the input reads as it did. -/
def waitgraphHoldsUptoRow : OpenClaim := { program := "ytcigeonmhefdhaa", sum := "7732f712df3a83ee63243c0e80bfb27cd137fc9b8f6c5dd15beab35d868e26a9", func := "estovers/estoverslaw42.WaitgraphHolds", spec := "waitgraphHolds", unfollowed := true, recurses := true, plainKeys := false, apart := false, narrowed := true }
def WaitgraphHoldsUptoSaid : Prop := waitgraphHoldsUptoRow.holds Try.pinned (OpenSpec.upto waitgraphHoldsSpec)

end Rows
end Go.Proofs.Ytcigeonmhefdhaa
