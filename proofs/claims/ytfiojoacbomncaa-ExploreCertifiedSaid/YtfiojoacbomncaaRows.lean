/-
  No cell of these rows narrows 'for every input' (looked for: loops, veiled, ifaces, maps, wideKeys, modest, calm, conditions, laid).
  DERIVED. THE GIVEN ROWS OF THIS SEAT. 8 by the template 'for every input the law returns true; each argument reads behind the call as it read before'; 0 by the template 'total and deterministic' (their statements: YtfiojoacbomncaaTotals.lean).
  GIVEN WITH THE SEED: the statements are not yours to turn. If you find one false, say at which input.
  Laid BY PROGRAM, IN A SANDBOX (cutbox-rows.mjs): the forced cells as the released guide's own fill.sh prints them over the translation 0d90971d03e5e2ea… (all of the seat's roots in one cut). By AI agents, Wed Nov 11 2026. No macro, syntax, notation, axiom, sorry.
-/
import Derived.Test.YtfiojoacbomncaaChecked
import GoSem.Claim
import GoSem.ClaimJoined
import GoSem.ClaimMapViews
import Derived.JoinedTies
import Derived.KernelRfl
namespace Go.Proofs.Ytfiojoacbomncaa
/- THE CELL 'sum', in the pinned program and in every row, IS THE sha256 OF THE DUMP (.gsa) THAT YtfiojoacbomncaaProg.lean LOADS. Nothing in Lean hashes anything: it is a label: what it is worth is what the hold of that sum in a sandbox is worth. -/
noncomputable def Try.pinned : Pinned := { name := "ytfiojoacbomncaa", sum := "0d90971d03e5e2ea4e69e27d7dc780a8c15786b742504fc3c3e29647faadde68", checked := Try.checked }
namespace Rows
def none {H : Type} : Left H := { results := [], args := [] }

/-- 'estoverslaw44.ExploreChecks': WHATEVER THE INPUT: true; the input reads as it did. -/
def exploreChecksSpec : ChangeSpec := { name := "exploreChecks", fn := fun _ => fun
  | [d1, d2, d3] => { results := [.lit (.bool true)], args := [d1, d2, d3] }
  | _ => none }
def exploreChecksRow : OpenClaim := { program := "ytfiojoacbomncaa", sum := "0d90971d03e5e2ea4e69e27d7dc780a8c15786b742504fc3c3e29647faadde68", func := "estovers/estoverslaw44.ExploreChecks", spec := "exploreChecks", unfollowed := true, recurses := true, plainKeys := false, apart := false }
def ExploreChecksSaid : Prop := exploreChecksRow.holds Try.pinned (OpenSpec.ofChange exploreChecksSpec)

/-- ITS FALSE NEIGHBOUR: 'it returns false'. Refute it at one input. -/
def exploreChecksWrong : ChangeSpec := { name := "exploreChecks", fn := fun _ => fun
  | [d1, d2, d3] => { results := [.lit (.bool false)], args := [d1, d2, d3] }
  | _ => none }
def ExploreChecksWrongFalsely : Prop := exploreChecksRow.holds Try.pinned (OpenSpec.ofChange exploreChecksWrong)

/-- 'estoverslaw44.ExploreReaches': WHATEVER THE INPUT: true; the input reads as it did. -/
def exploreReachesSpec : ChangeSpec := { name := "exploreReaches", fn := fun _ => fun
  | [d1, d2] => { results := [.lit (.bool true)], args := [d1, d2] }
  | _ => none }
def exploreReachesRow : OpenClaim := { program := "ytfiojoacbomncaa", sum := "0d90971d03e5e2ea4e69e27d7dc780a8c15786b742504fc3c3e29647faadde68", func := "estovers/estoverslaw44.ExploreReaches", spec := "exploreReaches", unfollowed := true, recurses := true, plainKeys := false, apart := false }
def ExploreReachesSaid : Prop := exploreReachesRow.holds Try.pinned (OpenSpec.ofChange exploreReachesSpec)

/-- ITS FALSE NEIGHBOUR: 'it returns false'. Refute it at one input. -/
def exploreReachesWrong : ChangeSpec := { name := "exploreReaches", fn := fun _ => fun
  | [d1, d2] => { results := [.lit (.bool false)], args := [d1, d2] }
  | _ => none }
def ExploreReachesWrongFalsely : Prop := exploreReachesRow.holds Try.pinned (OpenSpec.ofChange exploreReachesWrong)

/-- 'estoverslaw44.ExploreReplays': WHATEVER THE INPUT: true; the input reads as it did. -/
def exploreReplaysSpec : ChangeSpec := { name := "exploreReplays", fn := fun _ => fun
  | [d1, d2] => { results := [.lit (.bool true)], args := [d1, d2] }
  | _ => none }
def exploreReplaysRow : OpenClaim := { program := "ytfiojoacbomncaa", sum := "0d90971d03e5e2ea4e69e27d7dc780a8c15786b742504fc3c3e29647faadde68", func := "estovers/estoverslaw44.ExploreReplays", spec := "exploreReplays", unfollowed := true, recurses := true, plainKeys := false, apart := false }
def ExploreReplaysSaid : Prop := exploreReplaysRow.holds Try.pinned (OpenSpec.ofChange exploreReplaysSpec)

/-- ITS FALSE NEIGHBOUR: 'it returns false'. Refute it at one input. -/
def exploreReplaysWrong : ChangeSpec := { name := "exploreReplays", fn := fun _ => fun
  | [d1, d2] => { results := [.lit (.bool false)], args := [d1, d2] }
  | _ => none }
def ExploreReplaysWrongFalsely : Prop := exploreReplaysRow.holds Try.pinned (OpenSpec.ofChange exploreReplaysWrong)

/-- 'estoverslaw44.ExploreTakers': WHATEVER THE INPUT: true; the input reads as it did. -/
def exploreTakersSpec : ChangeSpec := { name := "exploreTakers", fn := fun _ => fun
  | [d1, d2, d3] => { results := [.lit (.bool true)], args := [d1, d2, d3] }
  | _ => none }
def exploreTakersRow : OpenClaim := { program := "ytfiojoacbomncaa", sum := "0d90971d03e5e2ea4e69e27d7dc780a8c15786b742504fc3c3e29647faadde68", func := "estovers/estoverslaw44.ExploreTakers", spec := "exploreTakers", unfollowed := true, recurses := true, plainKeys := false, apart := false }
def ExploreTakersSaid : Prop := exploreTakersRow.holds Try.pinned (OpenSpec.ofChange exploreTakersSpec)

/-- ITS FALSE NEIGHBOUR: 'it returns false'. Refute it at one input. -/
def exploreTakersWrong : ChangeSpec := { name := "exploreTakers", fn := fun _ => fun
  | [d1, d2, d3] => { results := [.lit (.bool false)], args := [d1, d2, d3] }
  | _ => none }
def ExploreTakersWrongFalsely : Prop := exploreTakersRow.holds Try.pinned (OpenSpec.ofChange exploreTakersWrong)

/-- 'estoverslaw44.ExplorePhilosophers': WHATEVER THE INPUT: true; the input reads as it did. -/
def explorePhilosophersSpec : ChangeSpec := { name := "explorePhilosophers", fn := fun _ => fun
  | [d] => { results := [.lit (.bool true)], args := [d] }
  | _ => none }
def explorePhilosophersRow : OpenClaim := { program := "ytfiojoacbomncaa", sum := "0d90971d03e5e2ea4e69e27d7dc780a8c15786b742504fc3c3e29647faadde68", func := "estovers/estoverslaw44.ExplorePhilosophers", spec := "explorePhilosophers", unfollowed := true, recurses := true, plainKeys := false, apart := false }
def ExplorePhilosophersSaid : Prop := explorePhilosophersRow.holds Try.pinned (OpenSpec.ofChange explorePhilosophersSpec)

/-- ITS FALSE NEIGHBOUR: 'it returns false'. Refute it at one input. -/
def explorePhilosophersWrong : ChangeSpec := { name := "explorePhilosophers", fn := fun _ => fun
  | [d] => { results := [.lit (.bool false)], args := [d] }
  | _ => none }
def ExplorePhilosophersWrongFalsely : Prop := explorePhilosophersRow.holds Try.pinned (OpenSpec.ofChange explorePhilosophersWrong)

/-- 'estoverslaw44.ExploreSteps': WHATEVER THE INPUT: true; the input reads as it did. -/
def exploreStepsSpec : ChangeSpec := { name := "exploreSteps", fn := fun _ => fun
  | [d1, d2, d3] => { results := [.lit (.bool true)], args := [d1, d2, d3] }
  | _ => none }
def exploreStepsRow : OpenClaim := { program := "ytfiojoacbomncaa", sum := "0d90971d03e5e2ea4e69e27d7dc780a8c15786b742504fc3c3e29647faadde68", func := "estovers/estoverslaw44.ExploreSteps", spec := "exploreSteps", unfollowed := true, recurses := true, plainKeys := false, apart := false }
def ExploreStepsSaid : Prop := exploreStepsRow.holds Try.pinned (OpenSpec.ofChange exploreStepsSpec)

/-- ITS FALSE NEIGHBOUR: 'it returns false'. Refute it at one input. -/
def exploreStepsWrong : ChangeSpec := { name := "exploreSteps", fn := fun _ => fun
  | [d1, d2, d3] => { results := [.lit (.bool false)], args := [d1, d2, d3] }
  | _ => none }
def ExploreStepsWrongFalsely : Prop := exploreStepsRow.holds Try.pinned (OpenSpec.ofChange exploreStepsWrong)

/-- 'estoverslaw44.ExploreSafe': WHATEVER THE INPUT: true; the input reads as it did. -/
def exploreSafeSpec : ChangeSpec := { name := "exploreSafe", fn := fun _ => fun
  | [d1, d2] => { results := [.lit (.bool true)], args := [d1, d2] }
  | _ => none }
def exploreSafeRow : OpenClaim := { program := "ytfiojoacbomncaa", sum := "0d90971d03e5e2ea4e69e27d7dc780a8c15786b742504fc3c3e29647faadde68", func := "estovers/estoverslaw44.ExploreSafe", spec := "exploreSafe", unfollowed := true, recurses := true, plainKeys := false, apart := false }
def ExploreSafeSaid : Prop := exploreSafeRow.holds Try.pinned (OpenSpec.ofChange exploreSafeSpec)

/-- ITS FALSE NEIGHBOUR: 'it returns false'. Refute it at one input. -/
def exploreSafeWrong : ChangeSpec := { name := "exploreSafe", fn := fun _ => fun
  | [d1, d2] => { results := [.lit (.bool false)], args := [d1, d2] }
  | _ => none }
def ExploreSafeWrongFalsely : Prop := exploreSafeRow.holds Try.pinned (OpenSpec.ofChange exploreSafeWrong)

/-- 'estoverslaw44.ExploreCertified': WHATEVER THE INPUT: true; the input reads as it did. -/
def exploreCertifiedSpec : ChangeSpec := { name := "exploreCertified", fn := fun _ => fun
  | [d1, d2] => { results := [.lit (.bool true)], args := [d1, d2] }
  | _ => none }
def exploreCertifiedRow : OpenClaim := { program := "ytfiojoacbomncaa", sum := "0d90971d03e5e2ea4e69e27d7dc780a8c15786b742504fc3c3e29647faadde68", func := "estovers/estoverslaw44.ExploreCertified", spec := "exploreCertified", unfollowed := true, recurses := true, plainKeys := false, apart := false }
def ExploreCertifiedSaid : Prop := exploreCertifiedRow.holds Try.pinned (OpenSpec.ofChange exploreCertifiedSpec)

/-- ITS FALSE NEIGHBOUR: 'it returns false'. Refute it at one input. -/
def exploreCertifiedWrong : ChangeSpec := { name := "exploreCertified", fn := fun _ => fun
  | [d1, d2] => { results := [.lit (.bool false)], args := [d1, d2] }
  | _ => none }
def ExploreCertifiedWrongFalsely : Prop := exploreCertifiedRow.holds Try.pinned (OpenSpec.ofChange exploreCertifiedWrong)

/- THE SECOND FORM. 'bulk': how many values and letters a reading holds, each counted each time it is reached (what is shared counts as often as it is met; a slice's spare places count too). A statement '..UptoSaid' is the law's where the arguments, and the package variables that the reading takes, are together of bulk at most 1048576: NARROWER than '..Said'. Prove '..Said' where nothing that the law and all that it calls make is longer than what came in: it says more and counts as full. Else prove '..UptoSaid'. A law counts once. -/
mutual
def uptoBulk {H : Type} : DataW H → Nat
  | .lit (.string bytes) => bytes.length + 1
  | .lit _ => 1
  | .nil => 1
  | .ptr d => uptoBulk d + 1
  | .slice elems spare => uptoBulkAll elems + uptoBulkAll spare + 1
  | .agg parts => uptoBulkAll parts + 1
  | .iface _ d => uptoBulk d + 1
  | .map entries => uptoBulkEntries entries + 1
  | .held _ => 1
def uptoBulkAll {H : Type} : List (DataW H) → Nat
  | [] => 0
  | d :: r => uptoBulk d + uptoBulkAll r
def uptoBulkEntries {H : Type} : List (Lit × DataW H) → Nat
  | [] => 0
  | x :: r => uptoBulkEntry x + uptoBulkEntries r
def uptoBulkEntry {H : Type} : Lit × DataW H → Nat
  | (.string bytes, d) => bytes.length + uptoBulk d + 1
  | (_, d) => uptoBulk d + 1
 end
def uptoSmall : (H : Type) → List (DataW H) → Bool := fun _ ds => decide (uptoBulkAll ds ≤ 1048576)
def OpenSpec.upto (s : _root_.Go.ChangeSpec) : _root_.Go.OpenSpec := { _root_.Go.OpenSpec.ofChange s with cond := some uptoSmall }

/-- 'estoverslaw44.ExploreChecks', WHERE WHAT IT READS IS OF BULK AT MOST 1048576: true; the input reads as it did. -/
def exploreChecksUptoRow : OpenClaim := { program := "ytfiojoacbomncaa", sum := "0d90971d03e5e2ea4e69e27d7dc780a8c15786b742504fc3c3e29647faadde68", func := "estovers/estoverslaw44.ExploreChecks", spec := "exploreChecks", unfollowed := true, recurses := true, plainKeys := false, apart := false, narrowed := true }
def ExploreChecksUptoSaid : Prop := exploreChecksUptoRow.holds Try.pinned (OpenSpec.upto exploreChecksSpec)

/-- 'estoverslaw44.ExploreReaches', WHERE WHAT IT READS IS OF BULK AT MOST 1048576: true; the input reads as it did. -/
def exploreReachesUptoRow : OpenClaim := { program := "ytfiojoacbomncaa", sum := "0d90971d03e5e2ea4e69e27d7dc780a8c15786b742504fc3c3e29647faadde68", func := "estovers/estoverslaw44.ExploreReaches", spec := "exploreReaches", unfollowed := true, recurses := true, plainKeys := false, apart := false, narrowed := true }
def ExploreReachesUptoSaid : Prop := exploreReachesUptoRow.holds Try.pinned (OpenSpec.upto exploreReachesSpec)

/-- 'estoverslaw44.ExploreReplays', WHERE WHAT IT READS IS OF BULK AT MOST 1048576: true; the input reads as it did. -/
def exploreReplaysUptoRow : OpenClaim := { program := "ytfiojoacbomncaa", sum := "0d90971d03e5e2ea4e69e27d7dc780a8c15786b742504fc3c3e29647faadde68", func := "estovers/estoverslaw44.ExploreReplays", spec := "exploreReplays", unfollowed := true, recurses := true, plainKeys := false, apart := false, narrowed := true }
def ExploreReplaysUptoSaid : Prop := exploreReplaysUptoRow.holds Try.pinned (OpenSpec.upto exploreReplaysSpec)

/-- 'estoverslaw44.ExploreTakers', WHERE WHAT IT READS IS OF BULK AT MOST 1048576: true; the input reads as it did. -/
def exploreTakersUptoRow : OpenClaim := { program := "ytfiojoacbomncaa", sum := "0d90971d03e5e2ea4e69e27d7dc780a8c15786b742504fc3c3e29647faadde68", func := "estovers/estoverslaw44.ExploreTakers", spec := "exploreTakers", unfollowed := true, recurses := true, plainKeys := false, apart := false, narrowed := true }
def ExploreTakersUptoSaid : Prop := exploreTakersUptoRow.holds Try.pinned (OpenSpec.upto exploreTakersSpec)

/-- 'estoverslaw44.ExplorePhilosophers', WHERE WHAT IT READS IS OF BULK AT MOST 1048576: true; the input reads as it did. -/
def explorePhilosophersUptoRow : OpenClaim := { program := "ytfiojoacbomncaa", sum := "0d90971d03e5e2ea4e69e27d7dc780a8c15786b742504fc3c3e29647faadde68", func := "estovers/estoverslaw44.ExplorePhilosophers", spec := "explorePhilosophers", unfollowed := true, recurses := true, plainKeys := false, apart := false, narrowed := true }
def ExplorePhilosophersUptoSaid : Prop := explorePhilosophersUptoRow.holds Try.pinned (OpenSpec.upto explorePhilosophersSpec)

/-- 'estoverslaw44.ExploreSteps', WHERE WHAT IT READS IS OF BULK AT MOST 1048576: true; the input reads as it did. -/
def exploreStepsUptoRow : OpenClaim := { program := "ytfiojoacbomncaa", sum := "0d90971d03e5e2ea4e69e27d7dc780a8c15786b742504fc3c3e29647faadde68", func := "estovers/estoverslaw44.ExploreSteps", spec := "exploreSteps", unfollowed := true, recurses := true, plainKeys := false, apart := false, narrowed := true }
def ExploreStepsUptoSaid : Prop := exploreStepsUptoRow.holds Try.pinned (OpenSpec.upto exploreStepsSpec)

/-- 'estoverslaw44.ExploreSafe', WHERE WHAT IT READS IS OF BULK AT MOST 1048576: true; the input reads as it did. -/
def exploreSafeUptoRow : OpenClaim := { program := "ytfiojoacbomncaa", sum := "0d90971d03e5e2ea4e69e27d7dc780a8c15786b742504fc3c3e29647faadde68", func := "estovers/estoverslaw44.ExploreSafe", spec := "exploreSafe", unfollowed := true, recurses := true, plainKeys := false, apart := false, narrowed := true }
def ExploreSafeUptoSaid : Prop := exploreSafeUptoRow.holds Try.pinned (OpenSpec.upto exploreSafeSpec)

/-- 'estoverslaw44.ExploreCertified', WHERE WHAT IT READS IS OF BULK AT MOST 1048576: true; the input reads as it did. -/
def exploreCertifiedUptoRow : OpenClaim := { program := "ytfiojoacbomncaa", sum := "0d90971d03e5e2ea4e69e27d7dc780a8c15786b742504fc3c3e29647faadde68", func := "estovers/estoverslaw44.ExploreCertified", spec := "exploreCertified", unfollowed := true, recurses := true, plainKeys := false, apart := false, narrowed := true }
def ExploreCertifiedUptoSaid : Prop := exploreCertifiedUptoRow.holds Try.pinned (OpenSpec.upto exploreCertifiedSpec)

end Rows
end Go.Proofs.Ytfiojoacbomncaa
