/-
  No cell of these rows narrows 'for every input' (looked for: loops, veiled, ifaces, maps, wideKeys, modest, calm, conditions, laid).
  DERIVED. THE GIVEN ROWS OF THIS SEAT. 7 by the template 'for every input the law returns true; each argument reads behind the call as it read before'; 0 by the template 'total and deterministic' (their statements: YtholibdhogbobaaTotals.lean).
  GIVEN WITH THE SEED: the statements are not yours to turn. If you find one false, say at which input.
  Laid BY PROGRAM, IN A SANDBOX (cutbox-rows.mjs): the forced cells as the released guide's own fill.sh prints them over the translation a021829d7f57f414… (all of the seat's roots in one cut). By AI agents, Wed Nov 11 2026. No macro, syntax, notation, axiom, sorry.
-/
import Derived.Test.YtholibdhogbobaaChecked
import GoSem.Claim
import GoSem.ClaimJoined
import GoSem.ClaimMapViews
import Derived.JoinedTies
import Derived.KernelRfl
namespace Go.Proofs.Ytholibdhogbobaa
/- THE CELL 'sum', in the pinned program and in every row, IS THE sha256 OF THE DUMP (.gsa) THAT YtholibdhogbobaaProg.lean LOADS. Nothing in Lean hashes anything: it is a label: what it is worth is what the hold of that sum in a sandbox is worth. -/
noncomputable def Try.pinned : Pinned := { name := "ytholibdhogbobaa", sum := "a021829d7f57f41464d3f2baf75d7050df463eb22ad20f03db37f989491e91c5", checked := Try.checked }
namespace Rows
def none {H : Type} : Left H := { results := [], args := [] }

/-- 'estoverslaw43.CertificateMakes': WHATEVER THE INPUT: true; the input reads as it did. -/
def certificateMakesSpec : ChangeSpec := { name := "certificateMakes", fn := fun _ => fun
  | [d1, d2] => { results := [.lit (.bool true)], args := [d1, d2] }
  | _ => none }
def certificateMakesRow : OpenClaim := { program := "ytholibdhogbobaa", sum := "a021829d7f57f41464d3f2baf75d7050df463eb22ad20f03db37f989491e91c5", func := "estovers/estoverslaw43.CertificateMakes", spec := "certificateMakes", unfollowed := true, recurses := true, plainKeys := false, apart := false }
def CertificateMakesSaid : Prop := certificateMakesRow.holds Try.pinned (OpenSpec.ofChange certificateMakesSpec)

/-- ITS FALSE NEIGHBOUR: 'it returns false'. Refute it at one input. -/
def certificateMakesWrong : ChangeSpec := { name := "certificateMakes", fn := fun _ => fun
  | [d1, d2] => { results := [.lit (.bool false)], args := [d1, d2] }
  | _ => none }
def CertificateMakesWrongFalsely : Prop := certificateMakesRow.holds Try.pinned (OpenSpec.ofChange certificateMakesWrong)

/-- 'estoverslaw43.CertificateVerifies': WHATEVER THE INPUT: true; the input reads as it did. -/
def certificateVerifiesSpec : ChangeSpec := { name := "certificateVerifies", fn := fun _ => fun
  | [d1, d2] => { results := [.lit (.bool true)], args := [d1, d2] }
  | _ => none }
def certificateVerifiesRow : OpenClaim := { program := "ytholibdhogbobaa", sum := "a021829d7f57f41464d3f2baf75d7050df463eb22ad20f03db37f989491e91c5", func := "estovers/estoverslaw43.CertificateVerifies", spec := "certificateVerifies", unfollowed := true, recurses := true, plainKeys := false, apart := false }
def CertificateVerifiesSaid : Prop := certificateVerifiesRow.holds Try.pinned (OpenSpec.ofChange certificateVerifiesSpec)

/-- ITS FALSE NEIGHBOUR: 'it returns false'. Refute it at one input. -/
def certificateVerifiesWrong : ChangeSpec := { name := "certificateVerifies", fn := fun _ => fun
  | [d1, d2] => { results := [.lit (.bool false)], args := [d1, d2] }
  | _ => none }
def CertificateVerifiesWrongFalsely : Prop := certificateVerifiesRow.holds Try.pinned (OpenSpec.ofChange certificateVerifiesWrong)

/-- 'estoverslaw43.CertificateRound': WHATEVER THE INPUT: true; the input reads as it did. -/
def certificateRoundSpec : ChangeSpec := { name := "certificateRound", fn := fun _ => fun
  | [d1, d2] => { results := [.lit (.bool true)], args := [d1, d2] }
  | _ => none }
def certificateRoundRow : OpenClaim := { program := "ytholibdhogbobaa", sum := "a021829d7f57f41464d3f2baf75d7050df463eb22ad20f03db37f989491e91c5", func := "estovers/estoverslaw43.CertificateRound", spec := "certificateRound", unfollowed := true, recurses := true, plainKeys := false, apart := false }
def CertificateRoundSaid : Prop := certificateRoundRow.holds Try.pinned (OpenSpec.ofChange certificateRoundSpec)

/-- ITS FALSE NEIGHBOUR: 'it returns false'. Refute it at one input. -/
def certificateRoundWrong : ChangeSpec := { name := "certificateRound", fn := fun _ => fun
  | [d1, d2] => { results := [.lit (.bool false)], args := [d1, d2] }
  | _ => none }
def CertificateRoundWrongFalsely : Prop := certificateRoundRow.holds Try.pinned (OpenSpec.ofChange certificateRoundWrong)

/-- 'estoverslaw43.CertificateExplains': WHATEVER THE INPUT: true; the input reads as it did. -/
def certificateExplainsSpec : ChangeSpec := { name := "certificateExplains", fn := fun _ => fun
  | [d] => { results := [.lit (.bool true)], args := [d] }
  | _ => none }
def certificateExplainsRow : OpenClaim := { program := "ytholibdhogbobaa", sum := "a021829d7f57f41464d3f2baf75d7050df463eb22ad20f03db37f989491e91c5", func := "estovers/estoverslaw43.CertificateExplains", spec := "certificateExplains", unfollowed := true, recurses := true, plainKeys := false, apart := false }
def CertificateExplainsSaid : Prop := certificateExplainsRow.holds Try.pinned (OpenSpec.ofChange certificateExplainsSpec)

/-- ITS FALSE NEIGHBOUR: 'it returns false'. Refute it at one input. -/
def certificateExplainsWrong : ChangeSpec := { name := "certificateExplains", fn := fun _ => fun
  | [d] => { results := [.lit (.bool false)], args := [d] }
  | _ => none }
def CertificateExplainsWrongFalsely : Prop := certificateExplainsRow.holds Try.pinned (OpenSpec.ofChange certificateExplainsWrong)

/-- 'estoverslaw43.CertificateScales': WHATEVER THE INPUT: true; the input reads as it did. -/
def certificateScalesSpec : ChangeSpec := { name := "certificateScales", fn := fun _ => fun
  | [d1, d2, d3] => { results := [.lit (.bool true)], args := [d1, d2, d3] }
  | _ => none }
def certificateScalesRow : OpenClaim := { program := "ytholibdhogbobaa", sum := "a021829d7f57f41464d3f2baf75d7050df463eb22ad20f03db37f989491e91c5", func := "estovers/estoverslaw43.CertificateScales", spec := "certificateScales", unfollowed := true, recurses := true, plainKeys := false, apart := false }
def CertificateScalesSaid : Prop := certificateScalesRow.holds Try.pinned (OpenSpec.ofChange certificateScalesSpec)

/-- ITS FALSE NEIGHBOUR: 'it returns false'. Refute it at one input. -/
def certificateScalesWrong : ChangeSpec := { name := "certificateScales", fn := fun _ => fun
  | [d1, d2, d3] => { results := [.lit (.bool false)], args := [d1, d2, d3] }
  | _ => none }
def CertificateScalesWrongFalsely : Prop := certificateScalesRow.holds Try.pinned (OpenSpec.ofChange certificateScalesWrong)

/-- 'estoverslaw43.CertificateFewer': WHATEVER THE INPUT: true; the input reads as it did. -/
def certificateFewerSpec : ChangeSpec := { name := "certificateFewer", fn := fun _ => fun
  | [d1, d2] => { results := [.lit (.bool true)], args := [d1, d2] }
  | _ => none }
def certificateFewerRow : OpenClaim := { program := "ytholibdhogbobaa", sum := "a021829d7f57f41464d3f2baf75d7050df463eb22ad20f03db37f989491e91c5", func := "estovers/estoverslaw43.CertificateFewer", spec := "certificateFewer", unfollowed := true, recurses := true, plainKeys := false, apart := false }
def CertificateFewerSaid : Prop := certificateFewerRow.holds Try.pinned (OpenSpec.ofChange certificateFewerSpec)

/-- ITS FALSE NEIGHBOUR: 'it returns false'. Refute it at one input. -/
def certificateFewerWrong : ChangeSpec := { name := "certificateFewer", fn := fun _ => fun
  | [d1, d2] => { results := [.lit (.bool false)], args := [d1, d2] }
  | _ => none }
def CertificateFewerWrongFalsely : Prop := certificateFewerRow.holds Try.pinned (OpenSpec.ofChange certificateFewerWrong)

/-- 'estoverslaw43.CertificateReserves': WHATEVER THE INPUT: true; the input reads as it did. -/
def certificateReservesSpec : ChangeSpec := { name := "certificateReserves", fn := fun _ => fun
  | [d1, d2] => { results := [.lit (.bool true)], args := [d1, d2] }
  | _ => none }
def certificateReservesRow : OpenClaim := { program := "ytholibdhogbobaa", sum := "a021829d7f57f41464d3f2baf75d7050df463eb22ad20f03db37f989491e91c5", func := "estovers/estoverslaw43.CertificateReserves", spec := "certificateReserves", unfollowed := true, recurses := true, plainKeys := false, apart := false }
def CertificateReservesSaid : Prop := certificateReservesRow.holds Try.pinned (OpenSpec.ofChange certificateReservesSpec)

/-- ITS FALSE NEIGHBOUR: 'it returns false'. Refute it at one input. -/
def certificateReservesWrong : ChangeSpec := { name := "certificateReserves", fn := fun _ => fun
  | [d1, d2] => { results := [.lit (.bool false)], args := [d1, d2] }
  | _ => none }
def CertificateReservesWrongFalsely : Prop := certificateReservesRow.holds Try.pinned (OpenSpec.ofChange certificateReservesWrong)

/- THE SECOND FORM. 'bulk': how many values and letters a reading holds, each counted each time it is reached (what is shared counts as often as it is met; a slice's spare places count too). A statement '..UptoSaid' is the law's where the arguments, and the package variables that the reading takes, are together of bulk at most 1048576: NARROWER than '..Said'. Prove '..Said' where nothing that the law and all that it calls make is longer than what came in: it says more and counts as full. Else prove '..UptoSaid'. A law counts once. -/
mutual
def uptoBulk {H : Type} : DataW H → Nat
  | .lit (.string bytes) => bytes.length + 1
  | .lit _ => 1
  | .nil => 1
  | .ptr d => uptoBulk d + 1
  | .slice elems spare => uptoBulkAll elems + uptoBulkAll spare + 1
  | .agg parts => uptoBulkAll parts + 1
  | .iface _ d => uptoBulk d + 1
  | .map entries => uptoBulkEntries entries + 1
  | .held _ => 1
def uptoBulkAll {H : Type} : List (DataW H) → Nat
  | [] => 0
  | d :: r => uptoBulk d + uptoBulkAll r
def uptoBulkEntries {H : Type} : List (Lit × DataW H) → Nat
  | [] => 0
  | x :: r => uptoBulkEntry x + uptoBulkEntries r
def uptoBulkEntry {H : Type} : Lit × DataW H → Nat
  | (.string bytes, d) => bytes.length + uptoBulk d + 1
  | (_, d) => uptoBulk d + 1
 end
def uptoSmall : (H : Type) → List (DataW H) → Bool := fun _ ds => decide (uptoBulkAll ds ≤ 1048576)
def OpenSpec.upto (s : _root_.Go.ChangeSpec) : _root_.Go.OpenSpec := { _root_.Go.OpenSpec.ofChange s with cond := some uptoSmall }

/-- 'estoverslaw43.CertificateMakes', WHERE WHAT IT READS IS OF BULK AT MOST 1048576: true; the input reads as it did. -/
def certificateMakesUptoRow : OpenClaim := { program := "ytholibdhogbobaa", sum := "a021829d7f57f41464d3f2baf75d7050df463eb22ad20f03db37f989491e91c5", func := "estovers/estoverslaw43.CertificateMakes", spec := "certificateMakes", unfollowed := true, recurses := true, plainKeys := false, apart := false, narrowed := true }
def CertificateMakesUptoSaid : Prop := certificateMakesUptoRow.holds Try.pinned (OpenSpec.upto certificateMakesSpec)

/-- 'estoverslaw43.CertificateVerifies', WHERE WHAT IT READS IS OF BULK AT MOST 1048576: true; the input reads as it did. -/
def certificateVerifiesUptoRow : OpenClaim := { program := "ytholibdhogbobaa", sum := "a021829d7f57f41464d3f2baf75d7050df463eb22ad20f03db37f989491e91c5", func := "estovers/estoverslaw43.CertificateVerifies", spec := "certificateVerifies", unfollowed := true, recurses := true, plainKeys := false, apart := false, narrowed := true }
def CertificateVerifiesUptoSaid : Prop := certificateVerifiesUptoRow.holds Try.pinned (OpenSpec.upto certificateVerifiesSpec)

/-- 'estoverslaw43.CertificateRound', WHERE WHAT IT READS IS OF BULK AT MOST 1048576: true; the input reads as it did. -/
def certificateRoundUptoRow : OpenClaim := { program := "ytholibdhogbobaa", sum := "a021829d7f57f41464d3f2baf75d7050df463eb22ad20f03db37f989491e91c5", func := "estovers/estoverslaw43.CertificateRound", spec := "certificateRound", unfollowed := true, recurses := true, plainKeys := false, apart := false, narrowed := true }
def CertificateRoundUptoSaid : Prop := certificateRoundUptoRow.holds Try.pinned (OpenSpec.upto certificateRoundSpec)

/-- 'estoverslaw43.CertificateExplains', WHERE WHAT IT READS IS OF BULK AT MOST 1048576: true; the input reads as it did. -/
def certificateExplainsUptoRow : OpenClaim := { program := "ytholibdhogbobaa", sum := "a021829d7f57f41464d3f2baf75d7050df463eb22ad20f03db37f989491e91c5", func := "estovers/estoverslaw43.CertificateExplains", spec := "certificateExplains", unfollowed := true, recurses := true, plainKeys := false, apart := false, narrowed := true }
def CertificateExplainsUptoSaid : Prop := certificateExplainsUptoRow.holds Try.pinned (OpenSpec.upto certificateExplainsSpec)

/-- 'estoverslaw43.CertificateScales', WHERE WHAT IT READS IS OF BULK AT MOST 1048576: true; the input reads as it did. -/
def certificateScalesUptoRow : OpenClaim := { program := "ytholibdhogbobaa", sum := "a021829d7f57f41464d3f2baf75d7050df463eb22ad20f03db37f989491e91c5", func := "estovers/estoverslaw43.CertificateScales", spec := "certificateScales", unfollowed := true, recurses := true, plainKeys := false, apart := false, narrowed := true }
def CertificateScalesUptoSaid : Prop := certificateScalesUptoRow.holds Try.pinned (OpenSpec.upto certificateScalesSpec)

/-- 'estoverslaw43.CertificateFewer', WHERE WHAT IT READS IS OF BULK AT MOST 1048576: true; the input reads as it did. -/
def certificateFewerUptoRow : OpenClaim := { program := "ytholibdhogbobaa", sum := "a021829d7f57f41464d3f2baf75d7050df463eb22ad20f03db37f989491e91c5", func := "estovers/estoverslaw43.CertificateFewer", spec := "certificateFewer", unfollowed := true, recurses := true, plainKeys := false, apart := false, narrowed := true }
def CertificateFewerUptoSaid : Prop := certificateFewerUptoRow.holds Try.pinned (OpenSpec.upto certificateFewerSpec)

/-- 'estoverslaw43.CertificateReserves', WHERE WHAT IT READS IS OF BULK AT MOST 1048576: true; the input reads as it did. -/
def certificateReservesUptoRow : OpenClaim := { program := "ytholibdhogbobaa", sum := "a021829d7f57f41464d3f2baf75d7050df463eb22ad20f03db37f989491e91c5", func := "estovers/estoverslaw43.CertificateReserves", spec := "certificateReserves", unfollowed := true, recurses := true, plainKeys := false, apart := false, narrowed := true }
def CertificateReservesUptoSaid : Prop := certificateReservesUptoRow.holds Try.pinned (OpenSpec.upto certificateReservesSpec)

end Rows
end Go.Proofs.Ytholibdhogbobaa
