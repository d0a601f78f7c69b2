/-
  No cell of these rows narrows 'for every input' (looked for: loops, veiled, ifaces, maps, wideKeys, modest, calm, conditions, laid).
  DERIVED. THE GIVEN ROWS OF THIS SEAT. 9 by the template 'for every input the law returns true; each argument reads behind the call as it read before'; 0 by the template 'total and deterministic' (their statements: YtalppnldnahmbaaTotals.lean).
  GIVEN WITH THE SEED: the statements are not yours to turn. If you find one false, say at which input.
  Laid BY PROGRAM, IN A SANDBOX (cutbox-rows.mjs): the forced cells as the released guide's own fill.sh prints them over the translation 3265b98dcd6ff3d6… (all of the seat's roots in one cut). By AI agents, Wed Nov 11 2026. No macro, syntax, notation, axiom, sorry.
-/
import Derived.Test.YtalppnldnahmbaaChecked
import GoSem.Claim
import GoSem.ClaimJoined
import GoSem.ClaimMapViews
import Derived.JoinedTies
import Derived.KernelRfl
namespace Go.Proofs.Ytalppnldnahmbaa
/- THE CELL 'sum', in the pinned program and in every row, IS THE sha256 OF THE DUMP (.gsa) THAT YtalppnldnahmbaaProg.lean LOADS. Nothing in Lean hashes anything: it is a label: what it is worth is what the hold of that sum in a sandbox is worth. -/
noncomputable def Try.pinned : Pinned := { name := "ytalppnldnahmbaa", sum := "3265b98dcd6ff3d61a53b57641a6cf51aefde1e94956eb8ad613536eb1e2b079", checked := Try.checked }
namespace Rows
def none {H : Type} : Left H := { results := [], args := [] }

/-- 'commutatorlaw44.TripChecks': WHATEVER THE INPUT: true; the input reads as it did. -/
def tripChecksSpec : ChangeSpec := { name := "tripChecks", fn := fun _ => fun
  | [d] => { results := [.lit (.bool true)], args := [d] }
  | _ => none }
def tripChecksRow : OpenClaim := { program := "ytalppnldnahmbaa", sum := "3265b98dcd6ff3d61a53b57641a6cf51aefde1e94956eb8ad613536eb1e2b079", func := "commutator/commutatorlaw44.TripChecks", spec := "tripChecks", unfollowed := true, recurses := true, apart := false }
def TripChecksSaid : Prop := tripChecksRow.holds Try.pinned (OpenSpec.ofChange tripChecksSpec)

/-- ITS FALSE NEIGHBOUR: 'it returns false'. Refute it at one input. -/
def tripChecksWrong : ChangeSpec := { name := "tripChecks", fn := fun _ => fun
  | [d] => { results := [.lit (.bool false)], args := [d] }
  | _ => none }
def TripChecksWrongFalsely : Prop := tripChecksRow.holds Try.pinned (OpenSpec.ofChange tripChecksWrong)

/-- 'commutatorlaw44.TripSteps': WHATEVER THE INPUT: true; the input reads as it did. -/
def tripStepsSpec : ChangeSpec := { name := "tripSteps", fn := fun _ => fun
  | [d1, d2, d3] => { results := [.lit (.bool true)], args := [d1, d2, d3] }
  | _ => none }
def tripStepsRow : OpenClaim := { program := "ytalppnldnahmbaa", sum := "3265b98dcd6ff3d61a53b57641a6cf51aefde1e94956eb8ad613536eb1e2b079", func := "commutator/commutatorlaw44.TripSteps", spec := "tripSteps", unfollowed := true, recurses := true, apart := false }
def TripStepsSaid : Prop := tripStepsRow.holds Try.pinned (OpenSpec.ofChange tripStepsSpec)

/-- ITS FALSE NEIGHBOUR: 'it returns false'. Refute it at one input. -/
def tripStepsWrong : ChangeSpec := { name := "tripSteps", fn := fun _ => fun
  | [d1, d2, d3] => { results := [.lit (.bool false)], args := [d1, d2, d3] }
  | _ => none }
def TripStepsWrongFalsely : Prop := tripStepsRow.holds Try.pinned (OpenSpec.ofChange tripStepsWrong)

/-- 'commutatorlaw44.TripLatch': WHATEVER THE INPUT: true; the input reads as it did. -/
def tripLatchSpec : ChangeSpec := { name := "tripLatch", fn := fun _ => fun
  | [d1, d2, d3] => { results := [.lit (.bool true)], args := [d1, d2, d3] }
  | _ => none }
def tripLatchRow : OpenClaim := { program := "ytalppnldnahmbaa", sum := "3265b98dcd6ff3d61a53b57641a6cf51aefde1e94956eb8ad613536eb1e2b079", func := "commutator/commutatorlaw44.TripLatch", spec := "tripLatch", unfollowed := true, recurses := true, apart := false }
def TripLatchSaid : Prop := tripLatchRow.holds Try.pinned (OpenSpec.ofChange tripLatchSpec)

/-- ITS FALSE NEIGHBOUR: 'it returns false'. Refute it at one input. -/
def tripLatchWrong : ChangeSpec := { name := "tripLatch", fn := fun _ => fun
  | [d1, d2, d3] => { results := [.lit (.bool false)], args := [d1, d2, d3] }
  | _ => none }
def TripLatchWrongFalsely : Prop := tripLatchRow.holds Try.pinned (OpenSpec.ofChange tripLatchWrong)

/-- 'commutatorlaw44.TripReacts': WHATEVER THE INPUT: true; the input reads as it did. -/
def tripReactsSpec : ChangeSpec := { name := "tripReacts", fn := fun _ => fun
  | [d1, d2, d3] => { results := [.lit (.bool true)], args := [d1, d2, d3] }
  | _ => none }
def tripReactsRow : OpenClaim := { program := "ytalppnldnahmbaa", sum := "3265b98dcd6ff3d61a53b57641a6cf51aefde1e94956eb8ad613536eb1e2b079", func := "commutator/commutatorlaw44.TripReacts", spec := "tripReacts", unfollowed := true, recurses := true, apart := false }
def TripReactsSaid : Prop := tripReactsRow.holds Try.pinned (OpenSpec.ofChange tripReactsSpec)

/-- ITS FALSE NEIGHBOUR: 'it returns false'. Refute it at one input. -/
def tripReactsWrong : ChangeSpec := { name := "tripReacts", fn := fun _ => fun
  | [d1, d2, d3] => { results := [.lit (.bool false)], args := [d1, d2, d3] }
  | _ => none }
def TripReactsWrongFalsely : Prop := tripReactsRow.holds Try.pinned (OpenSpec.ofChange tripReactsWrong)

/-- 'commutatorlaw44.TripResets': WHATEVER THE INPUT: true; the input reads as it did. -/
def tripResetsSpec : ChangeSpec := { name := "tripResets", fn := fun _ => fun
  | [d1, d2, d3] => { results := [.lit (.bool true)], args := [d1, d2, d3] }
  | _ => none }
def tripResetsRow : OpenClaim := { program := "ytalppnldnahmbaa", sum := "3265b98dcd6ff3d61a53b57641a6cf51aefde1e94956eb8ad613536eb1e2b079", func := "commutator/commutatorlaw44.TripResets", spec := "tripResets", unfollowed := true, recurses := true, apart := false }
def TripResetsSaid : Prop := tripResetsRow.holds Try.pinned (OpenSpec.ofChange tripResetsSpec)

/-- ITS FALSE NEIGHBOUR: 'it returns false'. Refute it at one input. -/
def tripResetsWrong : ChangeSpec := { name := "tripResets", fn := fun _ => fun
  | [d1, d2, d3] => { results := [.lit (.bool false)], args := [d1, d2, d3] }
  | _ => none }
def TripResetsWrongFalsely : Prop := tripResetsRow.holds Try.pinned (OpenSpec.ofChange tripResetsWrong)

/-- 'commutatorlaw44.TripQuiet': WHATEVER THE INPUT: true; the input reads as it did. -/
def tripQuietSpec : ChangeSpec := { name := "tripQuiet", fn := fun _ => fun
  | [d1, d2] => { results := [.lit (.bool true)], args := [d1, d2] }
  | _ => none }
def tripQuietRow : OpenClaim := { program := "ytalppnldnahmbaa", sum := "3265b98dcd6ff3d61a53b57641a6cf51aefde1e94956eb8ad613536eb1e2b079", func := "commutator/commutatorlaw44.TripQuiet", spec := "tripQuiet", unfollowed := true, recurses := true, apart := false }
def TripQuietSaid : Prop := tripQuietRow.holds Try.pinned (OpenSpec.ofChange tripQuietSpec)

/-- ITS FALSE NEIGHBOUR: 'it returns false'. Refute it at one input. -/
def tripQuietWrong : ChangeSpec := { name := "tripQuiet", fn := fun _ => fun
  | [d1, d2] => { results := [.lit (.bool false)], args := [d1, d2] }
  | _ => none }
def TripQuietWrongFalsely : Prop := tripQuietRow.holds Try.pinned (OpenSpec.ofChange tripQuietWrong)

/-- 'commutatorlaw44.TripBounds': WHATEVER THE INPUT: true; the input reads as it did. -/
def tripBoundsSpec : ChangeSpec := { name := "tripBounds", fn := fun _ => fun
  | [d1, d2, d3] => { results := [.lit (.bool true)], args := [d1, d2, d3] }
  | _ => none }
def tripBoundsRow : OpenClaim := { program := "ytalppnldnahmbaa", sum := "3265b98dcd6ff3d61a53b57641a6cf51aefde1e94956eb8ad613536eb1e2b079", func := "commutator/commutatorlaw44.TripBounds", spec := "tripBounds", unfollowed := true, recurses := true, apart := false }
def TripBoundsSaid : Prop := tripBoundsRow.holds Try.pinned (OpenSpec.ofChange tripBoundsSpec)

/-- ITS FALSE NEIGHBOUR: 'it returns false'. Refute it at one input. -/
def tripBoundsWrong : ChangeSpec := { name := "tripBounds", fn := fun _ => fun
  | [d1, d2, d3] => { results := [.lit (.bool false)], args := [d1, d2, d3] }
  | _ => none }
def TripBoundsWrongFalsely : Prop := tripBoundsRow.holds Try.pinned (OpenSpec.ofChange tripBoundsWrong)

/-- 'commutatorlaw44.TripVolts': WHATEVER THE INPUT: true; the input reads as it did. -/
def tripVoltsSpec : ChangeSpec := { name := "tripVolts", fn := fun _ => fun
  | [d1, d2, d3] => { results := [.lit (.bool true)], args := [d1, d2, d3] }
  | _ => none }
def tripVoltsRow : OpenClaim := { program := "ytalppnldnahmbaa", sum := "3265b98dcd6ff3d61a53b57641a6cf51aefde1e94956eb8ad613536eb1e2b079", func := "commutator/commutatorlaw44.TripVolts", spec := "tripVolts", unfollowed := true, recurses := true, apart := false }
def TripVoltsSaid : Prop := tripVoltsRow.holds Try.pinned (OpenSpec.ofChange tripVoltsSpec)

/-- ITS FALSE NEIGHBOUR: 'it returns false'. Refute it at one input. -/
def tripVoltsWrong : ChangeSpec := { name := "tripVolts", fn := fun _ => fun
  | [d1, d2, d3] => { results := [.lit (.bool false)], args := [d1, d2, d3] }
  | _ => none }
def TripVoltsWrongFalsely : Prop := tripVoltsRow.holds Try.pinned (OpenSpec.ofChange tripVoltsWrong)

/-- 'commutatorlaw44.TripPeaks': WHATEVER THE INPUT: true; the input reads as it did. -/
def tripPeaksSpec : ChangeSpec := { name := "tripPeaks", fn := fun _ => fun
  | [d1, d2, d3] => { results := [.lit (.bool true)], args := [d1, d2, d3] }
  | _ => none }
def tripPeaksRow : OpenClaim := { program := "ytalppnldnahmbaa", sum := "3265b98dcd6ff3d61a53b57641a6cf51aefde1e94956eb8ad613536eb1e2b079", func := "commutator/commutatorlaw44.TripPeaks", spec := "tripPeaks", unfollowed := true, recurses := true, apart := false }
def TripPeaksSaid : Prop := tripPeaksRow.holds Try.pinned (OpenSpec.ofChange tripPeaksSpec)

/-- ITS FALSE NEIGHBOUR: 'it returns false'. Refute it at one input. -/
def tripPeaksWrong : ChangeSpec := { name := "tripPeaks", fn := fun _ => fun
  | [d1, d2, d3] => { results := [.lit (.bool false)], args := [d1, d2, d3] }
  | _ => none }
def TripPeaksWrongFalsely : Prop := tripPeaksRow.holds Try.pinned (OpenSpec.ofChange tripPeaksWrong)

/- THE SECOND FORM. 'bulk': how many values and letters a reading holds, each counted each time it is reached (what is shared counts as often as it is met; a slice's spare places count too). A statement '..UptoSaid' is the law's where the arguments, and the package variables that the reading takes, are together of bulk at most 1048576: NARROWER than '..Said'. Prove '..Said' where nothing that the law and all that it calls make is longer than what came in: it says more and counts as full. Else prove '..UptoSaid'. A law counts once. -/
mutual
def uptoBulk {H : Type} : DataW H → Nat
  | .lit (.string bytes) => bytes.length + 1
  | .lit _ => 1
  | .nil => 1
  | .ptr d => uptoBulk d + 1
  | .slice elems spare => uptoBulkAll elems + uptoBulkAll spare + 1
  | .agg parts => uptoBulkAll parts + 1
  | .iface _ d => uptoBulk d + 1
  | .map entries => uptoBulkEntries entries + 1
  | .held _ => 1
def uptoBulkAll {H : Type} : List (DataW H) → Nat
  | [] => 0
  | d :: r => uptoBulk d + uptoBulkAll r
def uptoBulkEntries {H : Type} : List (Lit × DataW H) → Nat
  | [] => 0
  | x :: r => uptoBulkEntry x + uptoBulkEntries r
def uptoBulkEntry {H : Type} : Lit × DataW H → Nat
  | (.string bytes, d) => bytes.length + uptoBulk d + 1
  | (_, d) => uptoBulk d + 1
 end
def uptoSmall : (H : Type) → List (DataW H) → Bool := fun _ ds => decide (uptoBulkAll ds ≤ 1048576)
def OpenSpec.upto (s : _root_.Go.ChangeSpec) : _root_.Go.OpenSpec := { _root_.Go.OpenSpec.ofChange s with cond := some uptoSmall }

/-- 'commutatorlaw44.TripChecks', WHERE WHAT IT READS IS OF BULK AT MOST 1048576: true; the input reads as it did. -/
def tripChecksUptoRow : OpenClaim := { program := "ytalppnldnahmbaa", sum := "3265b98dcd6ff3d61a53b57641a6cf51aefde1e94956eb8ad613536eb1e2b079", func := "commutator/commutatorlaw44.TripChecks", spec := "tripChecks", unfollowed := true, recurses := true, apart := false, narrowed := true }
def TripChecksUptoSaid : Prop := tripChecksUptoRow.holds Try.pinned (OpenSpec.upto tripChecksSpec)

/-- 'commutatorlaw44.TripSteps', WHERE WHAT IT READS IS OF BULK AT MOST 1048576: true; the input reads as it did. -/
def tripStepsUptoRow : OpenClaim := { program := "ytalppnldnahmbaa", sum := "3265b98dcd6ff3d61a53b57641a6cf51aefde1e94956eb8ad613536eb1e2b079", func := "commutator/commutatorlaw44.TripSteps", spec := "tripSteps", unfollowed := true, recurses := true, apart := false, narrowed := true }
def TripStepsUptoSaid : Prop := tripStepsUptoRow.holds Try.pinned (OpenSpec.upto tripStepsSpec)

/-- 'commutatorlaw44.TripLatch', WHERE WHAT IT READS IS OF BULK AT MOST 1048576: true; the input reads as it did. -/
def tripLatchUptoRow : OpenClaim := { program := "ytalppnldnahmbaa", sum := "3265b98dcd6ff3d61a53b57641a6cf51aefde1e94956eb8ad613536eb1e2b079", func := "commutator/commutatorlaw44.TripLatch", spec := "tripLatch", unfollowed := true, recurses := true, apart := false, narrowed := true }
def TripLatchUptoSaid : Prop := tripLatchUptoRow.holds Try.pinned (OpenSpec.upto tripLatchSpec)

/-- 'commutatorlaw44.TripReacts', WHERE WHAT IT READS IS OF BULK AT MOST 1048576: true; the input reads as it did. -/
def tripReactsUptoRow : OpenClaim := { program := "ytalppnldnahmbaa", sum := "3265b98dcd6ff3d61a53b57641a6cf51aefde1e94956eb8ad613536eb1e2b079", func := "commutator/commutatorlaw44.TripReacts", spec := "tripReacts", unfollowed := true, recurses := true, apart := false, narrowed := true }
def TripReactsUptoSaid : Prop := tripReactsUptoRow.holds Try.pinned (OpenSpec.upto tripReactsSpec)

/-- 'commutatorlaw44.TripResets', WHERE WHAT IT READS IS OF BULK AT MOST 1048576: true; the input reads as it did. -/
def tripResetsUptoRow : OpenClaim := { program := "ytalppnldnahmbaa", sum := "3265b98dcd6ff3d61a53b57641a6cf51aefde1e94956eb8ad613536eb1e2b079", func := "commutator/commutatorlaw44.TripResets", spec := "tripResets", unfollowed := true, recurses := true, apart := false, narrowed := true }
def TripResetsUptoSaid : Prop := tripResetsUptoRow.holds Try.pinned (OpenSpec.upto tripResetsSpec)

/-- 'commutatorlaw44.TripQuiet', WHERE WHAT IT READS IS OF BULK AT MOST 1048576: true; the input reads as it did. -/
def tripQuietUptoRow : OpenClaim := { program := "ytalppnldnahmbaa", sum := "3265b98dcd6ff3d61a53b57641a6cf51aefde1e94956eb8ad613536eb1e2b079", func := "commutator/commutatorlaw44.TripQuiet", spec := "tripQuiet", unfollowed := true, recurses := true, apart := false, narrowed := true }
def TripQuietUptoSaid : Prop := tripQuietUptoRow.holds Try.pinned (OpenSpec.upto tripQuietSpec)

/-- 'commutatorlaw44.TripBounds', WHERE WHAT IT READS IS OF BULK AT MOST 1048576: true; the input reads as it did. -/
def tripBoundsUptoRow : OpenClaim := { program := "ytalppnldnahmbaa", sum := "3265b98dcd6ff3d61a53b57641a6cf51aefde1e94956eb8ad613536eb1e2b079", func := "commutator/commutatorlaw44.TripBounds", spec := "tripBounds", unfollowed := true, recurses := true, apart := false, narrowed := true }
def TripBoundsUptoSaid : Prop := tripBoundsUptoRow.holds Try.pinned (OpenSpec.upto tripBoundsSpec)

/-- 'commutatorlaw44.TripVolts', WHERE WHAT IT READS IS OF BULK AT MOST 1048576: true; the input reads as it did. -/
def tripVoltsUptoRow : OpenClaim := { program := "ytalppnldnahmbaa", sum := "3265b98dcd6ff3d61a53b57641a6cf51aefde1e94956eb8ad613536eb1e2b079", func := "commutator/commutatorlaw44.TripVolts", spec := "tripVolts", unfollowed := true, recurses := true, apart := false, narrowed := true }
def TripVoltsUptoSaid : Prop := tripVoltsUptoRow.holds Try.pinned (OpenSpec.upto tripVoltsSpec)

/-- 'commutatorlaw44.TripPeaks', WHERE WHAT IT READS IS OF BULK AT MOST 1048576: true; the input reads as it did. -/
def tripPeaksUptoRow : OpenClaim := { program := "ytalppnldnahmbaa", sum := "3265b98dcd6ff3d61a53b57641a6cf51aefde1e94956eb8ad613536eb1e2b079", func := "commutator/commutatorlaw44.TripPeaks", spec := "tripPeaks", unfollowed := true, recurses := true, apart := false, narrowed := true }
def TripPeaksUptoSaid : Prop := tripPeaksUptoRow.holds Try.pinned (OpenSpec.upto tripPeaksSpec)

end Rows
end Go.Proofs.Ytalppnldnahmbaa
