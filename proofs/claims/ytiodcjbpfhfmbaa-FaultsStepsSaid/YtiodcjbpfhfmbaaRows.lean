/-
  No cell of these rows narrows 'for every input' (looked for: loops, veiled, ifaces, maps, wideKeys, modest, calm, conditions, laid).
  DERIVED. THE GIVEN ROWS OF THIS SEAT. 7 by the template 'for every input the law returns true; each argument reads behind the call as it read before'; 0 by the template 'total and deterministic' (their statements: YtiodcjbpfhfmbaaTotals.lean).
  GIVEN WITH THE SEED: the statements are not yours to turn. If you find one false, say at which input.
  Laid BY PROGRAM, IN A SANDBOX (cutbox-rows.mjs): the forced cells as the released guide's own fill.sh prints them over the translation 76285136113e326f… (all of the seat's roots in one cut). By AI agents, Wed Nov 11 2026. No macro, syntax, notation, axiom, sorry.
-/
import Derived.Test.YtiodcjbpfhfmbaaChecked
import GoSem.Claim
import GoSem.ClaimJoined
import GoSem.ClaimMapViews
import Derived.JoinedTies
import Derived.KernelRfl
namespace Go.Proofs.Ytiodcjbpfhfmbaa
/- THE CELL 'sum', in the pinned program and in every row, IS THE sha256 OF THE DUMP (.gsa) THAT YtiodcjbpfhfmbaaProg.lean LOADS. Nothing in Lean hashes anything: it is a label: what it is worth is what the hold of that sum in a sandbox is worth. -/
noncomputable def Try.pinned : Pinned := { name := "ytiodcjbpfhfmbaa", sum := "76285136113e326f59063c21b6ed3e1ca40eee4ac27bffa2c344526b3f9e988a", checked := Try.checked }
namespace Rows
def none {H : Type} : Left H := { results := [], args := [] }

/-- 'commutatorlaw48.FaultsChecks': WHATEVER THE INPUT: true; the input reads as it did. -/
def faultsChecksSpec : ChangeSpec := { name := "faultsChecks", fn := fun _ => fun
  | [d] => { results := [.lit (.bool true)], args := [d] }
  | _ => none }
def faultsChecksRow : OpenClaim := { program := "ytiodcjbpfhfmbaa", sum := "76285136113e326f59063c21b6ed3e1ca40eee4ac27bffa2c344526b3f9e988a", func := "commutator/commutatorlaw48.FaultsChecks", spec := "faultsChecks", unfollowed := true, recurses := true, apart := false }
def FaultsChecksSaid : Prop := faultsChecksRow.holds Try.pinned (OpenSpec.ofChange faultsChecksSpec)

/-- ITS FALSE NEIGHBOUR: 'it returns false'. Refute it at one input. -/
def faultsChecksWrong : ChangeSpec := { name := "faultsChecks", fn := fun _ => fun
  | [d] => { results := [.lit (.bool false)], args := [d] }
  | _ => none }
def FaultsChecksWrongFalsely : Prop := faultsChecksRow.holds Try.pinned (OpenSpec.ofChange faultsChecksWrong)

/-- 'commutatorlaw48.FaultsSteps': WHATEVER THE INPUT: true; the input reads as it did. -/
def faultsStepsSpec : ChangeSpec := { name := "faultsSteps", fn := fun _ => fun
  | [d1, d2, d3] => { results := [.lit (.bool true)], args := [d1, d2, d3] }
  | _ => none }
def faultsStepsRow : OpenClaim := { program := "ytiodcjbpfhfmbaa", sum := "76285136113e326f59063c21b6ed3e1ca40eee4ac27bffa2c344526b3f9e988a", func := "commutator/commutatorlaw48.FaultsSteps", spec := "faultsSteps", unfollowed := true, recurses := true, apart := false }
def FaultsStepsSaid : Prop := faultsStepsRow.holds Try.pinned (OpenSpec.ofChange faultsStepsSpec)

/-- ITS FALSE NEIGHBOUR: 'it returns false'. Refute it at one input. -/
def faultsStepsWrong : ChangeSpec := { name := "faultsSteps", fn := fun _ => fun
  | [d1, d2, d3] => { results := [.lit (.bool false)], args := [d1, d2, d3] }
  | _ => none }
def FaultsStepsWrongFalsely : Prop := faultsStepsRow.holds Try.pinned (OpenSpec.ofChange faultsStepsWrong)

/-- 'commutatorlaw48.FaultsFirm': WHATEVER THE INPUT: true; the input reads as it did. -/
def faultsFirmSpec : ChangeSpec := { name := "faultsFirm", fn := fun _ => fun
  | [d1, d2] => { results := [.lit (.bool true)], args := [d1, d2] }
  | _ => none }
def faultsFirmRow : OpenClaim := { program := "ytiodcjbpfhfmbaa", sum := "76285136113e326f59063c21b6ed3e1ca40eee4ac27bffa2c344526b3f9e988a", func := "commutator/commutatorlaw48.FaultsFirm", spec := "faultsFirm", unfollowed := true, recurses := true, apart := false }
def FaultsFirmSaid : Prop := faultsFirmRow.holds Try.pinned (OpenSpec.ofChange faultsFirmSpec)

/-- ITS FALSE NEIGHBOUR: 'it returns false'. Refute it at one input. -/
def faultsFirmWrong : ChangeSpec := { name := "faultsFirm", fn := fun _ => fun
  | [d1, d2] => { results := [.lit (.bool false)], args := [d1, d2] }
  | _ => none }
def FaultsFirmWrongFalsely : Prop := faultsFirmRow.holds Try.pinned (OpenSpec.ofChange faultsFirmWrong)

/-- 'commutatorlaw48.FaultsLatch': WHATEVER THE INPUT: true; the input reads as it did. -/
def faultsLatchSpec : ChangeSpec := { name := "faultsLatch", fn := fun _ => fun
  | [d1, d2] => { results := [.lit (.bool true)], args := [d1, d2] }
  | _ => none }
def faultsLatchRow : OpenClaim := { program := "ytiodcjbpfhfmbaa", sum := "76285136113e326f59063c21b6ed3e1ca40eee4ac27bffa2c344526b3f9e988a", func := "commutator/commutatorlaw48.FaultsLatch", spec := "faultsLatch", unfollowed := true, recurses := true, apart := false }
def FaultsLatchSaid : Prop := faultsLatchRow.holds Try.pinned (OpenSpec.ofChange faultsLatchSpec)

/-- ITS FALSE NEIGHBOUR: 'it returns false'. Refute it at one input. -/
def faultsLatchWrong : ChangeSpec := { name := "faultsLatch", fn := fun _ => fun
  | [d1, d2] => { results := [.lit (.bool false)], args := [d1, d2] }
  | _ => none }
def FaultsLatchWrongFalsely : Prop := faultsLatchRow.holds Try.pinned (OpenSpec.ofChange faultsLatchWrong)

/-- 'commutatorlaw48.FaultsMonotone': WHATEVER THE INPUT: true; the input reads as it did. -/
def faultsMonotoneSpec : ChangeSpec := { name := "faultsMonotone", fn := fun _ => fun
  | [d1, d2, d3] => { results := [.lit (.bool true)], args := [d1, d2, d3] }
  | _ => none }
def faultsMonotoneRow : OpenClaim := { program := "ytiodcjbpfhfmbaa", sum := "76285136113e326f59063c21b6ed3e1ca40eee4ac27bffa2c344526b3f9e988a", func := "commutator/commutatorlaw48.FaultsMonotone", spec := "faultsMonotone", unfollowed := true, recurses := true, apart := false }
def FaultsMonotoneSaid : Prop := faultsMonotoneRow.holds Try.pinned (OpenSpec.ofChange faultsMonotoneSpec)

/-- ITS FALSE NEIGHBOUR: 'it returns false'. Refute it at one input. -/
def faultsMonotoneWrong : ChangeSpec := { name := "faultsMonotone", fn := fun _ => fun
  | [d1, d2, d3] => { results := [.lit (.bool false)], args := [d1, d2, d3] }
  | _ => none }
def FaultsMonotoneWrongFalsely : Prop := faultsMonotoneRow.holds Try.pinned (OpenSpec.ofChange faultsMonotoneWrong)

/-- 'commutatorlaw48.FaultsLog': WHATEVER THE INPUT: true; the input reads as it did. -/
def faultsLogSpec : ChangeSpec := { name := "faultsLog", fn := fun _ => fun
  | [d1, d2] => { results := [.lit (.bool true)], args := [d1, d2] }
  | _ => none }
def faultsLogRow : OpenClaim := { program := "ytiodcjbpfhfmbaa", sum := "76285136113e326f59063c21b6ed3e1ca40eee4ac27bffa2c344526b3f9e988a", func := "commutator/commutatorlaw48.FaultsLog", spec := "faultsLog", unfollowed := true, recurses := true, apart := false }
def FaultsLogSaid : Prop := faultsLogRow.holds Try.pinned (OpenSpec.ofChange faultsLogSpec)

/-- ITS FALSE NEIGHBOUR: 'it returns false'. Refute it at one input. -/
def faultsLogWrong : ChangeSpec := { name := "faultsLog", fn := fun _ => fun
  | [d1, d2] => { results := [.lit (.bool false)], args := [d1, d2] }
  | _ => none }
def FaultsLogWrongFalsely : Prop := faultsLogRow.holds Try.pinned (OpenSpec.ofChange faultsLogWrong)

/-- 'commutatorlaw48.FaultsCauses': WHATEVER THE INPUT: true; the input reads as it did. -/
def faultsCausesSpec : ChangeSpec := { name := "faultsCauses", fn := fun _ => fun
  | [d1, d2] => { results := [.lit (.bool true)], args := [d1, d2] }
  | _ => none }
def faultsCausesRow : OpenClaim := { program := "ytiodcjbpfhfmbaa", sum := "76285136113e326f59063c21b6ed3e1ca40eee4ac27bffa2c344526b3f9e988a", func := "commutator/commutatorlaw48.FaultsCauses", spec := "faultsCauses", unfollowed := true, recurses := true, apart := false }
def FaultsCausesSaid : Prop := faultsCausesRow.holds Try.pinned (OpenSpec.ofChange faultsCausesSpec)

/-- ITS FALSE NEIGHBOUR: 'it returns false'. Refute it at one input. -/
def faultsCausesWrong : ChangeSpec := { name := "faultsCauses", fn := fun _ => fun
  | [d1, d2] => { results := [.lit (.bool false)], args := [d1, d2] }
  | _ => none }
def FaultsCausesWrongFalsely : Prop := faultsCausesRow.holds Try.pinned (OpenSpec.ofChange faultsCausesWrong)

/- THE SECOND FORM. 'bulk': how many values and letters a reading holds, each counted each time it is reached (what is shared counts as often as it is met; a slice's spare places count too). A statement '..UptoSaid' is the law's where the arguments, and the package variables that the reading takes, are together of bulk at most 1048576: NARROWER than '..Said'. Prove '..Said' where nothing that the law and all that it calls make is longer than what came in: it says more and counts as full. Else prove '..UptoSaid'. A law counts once. -/
mutual
def uptoBulk {H : Type} : DataW H → Nat
  | .lit (.string bytes) => bytes.length + 1
  | .lit _ => 1
  | .nil => 1
  | .ptr d => uptoBulk d + 1
  | .slice elems spare => uptoBulkAll elems + uptoBulkAll spare + 1
  | .agg parts => uptoBulkAll parts + 1
  | .iface _ d => uptoBulk d + 1
  | .map entries => uptoBulkEntries entries + 1
  | .held _ => 1
def uptoBulkAll {H : Type} : List (DataW H) → Nat
  | [] => 0
  | d :: r => uptoBulk d + uptoBulkAll r
def uptoBulkEntries {H : Type} : List (Lit × DataW H) → Nat
  | [] => 0
  | x :: r => uptoBulkEntry x + uptoBulkEntries r
def uptoBulkEntry {H : Type} : Lit × DataW H → Nat
  | (.string bytes, d) => bytes.length + uptoBulk d + 1
  | (_, d) => uptoBulk d + 1
 end
def uptoSmall : (H : Type) → List (DataW H) → Bool := fun _ ds => decide (uptoBulkAll ds ≤ 1048576)
def OpenSpec.upto (s : _root_.Go.ChangeSpec) : _root_.Go.OpenSpec := { _root_.Go.OpenSpec.ofChange s with cond := some uptoSmall }

/-- 'commutatorlaw48.FaultsChecks', WHERE WHAT IT READS IS OF BULK AT MOST 1048576: true; the input reads as it did. -/
def faultsChecksUptoRow : OpenClaim := { program := "ytiodcjbpfhfmbaa", sum := "76285136113e326f59063c21b6ed3e1ca40eee4ac27bffa2c344526b3f9e988a", func := "commutator/commutatorlaw48.FaultsChecks", spec := "faultsChecks", unfollowed := true, recurses := true, apart := false, narrowed := true }
def FaultsChecksUptoSaid : Prop := faultsChecksUptoRow.holds Try.pinned (OpenSpec.upto faultsChecksSpec)

/-- 'commutatorlaw48.FaultsSteps', WHERE WHAT IT READS IS OF BULK AT MOST 1048576: true; the input reads as it did. -/
def faultsStepsUptoRow : OpenClaim := { program := "ytiodcjbpfhfmbaa", sum := "76285136113e326f59063c21b6ed3e1ca40eee4ac27bffa2c344526b3f9e988a", func := "commutator/commutatorlaw48.FaultsSteps", spec := "faultsSteps", unfollowed := true, recurses := true, apart := false, narrowed := true }
def FaultsStepsUptoSaid : Prop := faultsStepsUptoRow.holds Try.pinned (OpenSpec.upto faultsStepsSpec)

/-- 'commutatorlaw48.FaultsFirm', WHERE WHAT IT READS IS OF BULK AT MOST 1048576: true; the input reads as it did. -/
def faultsFirmUptoRow : OpenClaim := { program := "ytiodcjbpfhfmbaa", sum := "76285136113e326f59063c21b6ed3e1ca40eee4ac27bffa2c344526b3f9e988a", func := "commutator/commutatorlaw48.FaultsFirm", spec := "faultsFirm", unfollowed := true, recurses := true, apart := false, narrowed := true }
def FaultsFirmUptoSaid : Prop := faultsFirmUptoRow.holds Try.pinned (OpenSpec.upto faultsFirmSpec)

/-- 'commutatorlaw48.FaultsLatch', WHERE WHAT IT READS IS OF BULK AT MOST 1048576: true; the input reads as it did. -/
def faultsLatchUptoRow : OpenClaim := { program := "ytiodcjbpfhfmbaa", sum := "76285136113e326f59063c21b6ed3e1ca40eee4ac27bffa2c344526b3f9e988a", func := "commutator/commutatorlaw48.FaultsLatch", spec := "faultsLatch", unfollowed := true, recurses := true, apart := false, narrowed := true }
def FaultsLatchUptoSaid : Prop := faultsLatchUptoRow.holds Try.pinned (OpenSpec.upto faultsLatchSpec)

/-- 'commutatorlaw48.FaultsMonotone', WHERE WHAT IT READS IS OF BULK AT MOST 1048576: true; the input reads as it did. -/
def faultsMonotoneUptoRow : OpenClaim := { program := "ytiodcjbpfhfmbaa", sum := "76285136113e326f59063c21b6ed3e1ca40eee4ac27bffa2c344526b3f9e988a", func := "commutator/commutatorlaw48.FaultsMonotone", spec := "faultsMonotone", unfollowed := true, recurses := true, apart := false, narrowed := true }
def FaultsMonotoneUptoSaid : Prop := faultsMonotoneUptoRow.holds Try.pinned (OpenSpec.upto faultsMonotoneSpec)

/-- 'commutatorlaw48.FaultsLog', WHERE WHAT IT READS IS OF BULK AT MOST 1048576: true; the input reads as it did. -/
def faultsLogUptoRow : OpenClaim := { program := "ytiodcjbpfhfmbaa", sum := "76285136113e326f59063c21b6ed3e1ca40eee4ac27bffa2c344526b3f9e988a", func := "commutator/commutatorlaw48.FaultsLog", spec := "faultsLog", unfollowed := true, recurses := true, apart := false, narrowed := true }
def FaultsLogUptoSaid : Prop := faultsLogUptoRow.holds Try.pinned (OpenSpec.upto faultsLogSpec)

/-- 'commutatorlaw48.FaultsCauses', WHERE WHAT IT READS IS OF BULK AT MOST 1048576: true; the input reads as it did. -/
def faultsCausesUptoRow : OpenClaim := { program := "ytiodcjbpfhfmbaa", sum := "76285136113e326f59063c21b6ed3e1ca40eee4ac27bffa2c344526b3f9e988a", func := "commutator/commutatorlaw48.FaultsCauses", spec := "faultsCauses", unfollowed := true, recurses := true, apart := false, narrowed := true }
def FaultsCausesUptoSaid : Prop := faultsCausesUptoRow.holds Try.pinned (OpenSpec.upto faultsCausesSpec)

end Rows
end Go.Proofs.Ytiodcjbpfhfmbaa
