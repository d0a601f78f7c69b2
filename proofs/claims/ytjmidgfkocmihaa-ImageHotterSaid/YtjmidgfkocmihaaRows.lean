/-
  No cell of these rows narrows 'for every input' (looked for: loops, veiled, ifaces, maps, wideKeys, modest, calm, conditions, laid).
  DERIVED. THE GIVEN ROWS OF THIS SEAT. 8 by the template 'for every input the law returns true; each argument reads behind the call as it read before'; 0 by the template 'total and deterministic' (their statements: YtjmidgfkocmihaaTotals.lean).
  GIVEN WITH THE SEED: the statements are not yours to turn. If you find one false, say at which input.
  Laid BY PROGRAM, IN A SANDBOX (cutbox-rows.mjs): the forced cells as the released guide's own fill.sh prints them over the translation a5571f2890d21e3d… (all of the seat's roots in one cut). By AI agents, Wed Nov 11 2026. No macro, syntax, notation, axiom, sorry.
-/
import Derived.Test.YtjmidgfkocmihaaChecked
import GoSem.Claim
import GoSem.ClaimJoined
import GoSem.ClaimMapViews
import Derived.JoinedTies
import Derived.KernelRfl
namespace Go.Proofs.Ytjmidgfkocmihaa
/- THE CELL 'sum', in the pinned program and in every row, IS THE sha256 OF THE DUMP (.gsa) THAT YtjmidgfkocmihaaProg.lean LOADS. Nothing in Lean hashes anything: it is a label: what it is worth is what the hold of that sum in a sandbox is worth. -/
noncomputable def Try.pinned : Pinned := { name := "ytjmidgfkocmihaa", sum := "a5571f2890d21e3d2c64b34ea7a3b6724f61557432e3c1d3e296801723aabf08", checked := Try.checked }
namespace Rows
def none {H : Type} : Left H := { results := [], args := [] }

/-- 'commutatorlaw45.ImageChecks': WHATEVER THE INPUT: true; the input reads as it did. -/
def imageChecksSpec : ChangeSpec := { name := "imageChecks", fn := fun _ => fun
  | [d] => { results := [.lit (.bool true)], args := [d] }
  | _ => none }
def imageChecksRow : OpenClaim := { program := "ytjmidgfkocmihaa", sum := "a5571f2890d21e3d2c64b34ea7a3b6724f61557432e3c1d3e296801723aabf08", func := "commutator/commutatorlaw45.ImageChecks", spec := "imageChecks", apart := false }
def ImageChecksSaid : Prop := imageChecksRow.holds Try.pinned (OpenSpec.ofChange imageChecksSpec)

/-- ITS FALSE NEIGHBOUR: 'it returns false'. Refute it at one input. -/
def imageChecksWrong : ChangeSpec := { name := "imageChecks", fn := fun _ => fun
  | [d] => { results := [.lit (.bool false)], args := [d] }
  | _ => none }
def ImageChecksWrongFalsely : Prop := imageChecksRow.holds Try.pinned (OpenSpec.ofChange imageChecksWrong)

/-- 'commutatorlaw45.ImageSteps': WHATEVER THE INPUT: true; the input reads as it did. -/
def imageStepsSpec : ChangeSpec := { name := "imageSteps", fn := fun _ => fun
  | [d1, d2] => { results := [.lit (.bool true)], args := [d1, d2] }
  | _ => none }
def imageStepsRow : OpenClaim := { program := "ytjmidgfkocmihaa", sum := "a5571f2890d21e3d2c64b34ea7a3b6724f61557432e3c1d3e296801723aabf08", func := "commutator/commutatorlaw45.ImageSteps", spec := "imageSteps", apart := false }
def ImageStepsSaid : Prop := imageStepsRow.holds Try.pinned (OpenSpec.ofChange imageStepsSpec)

/-- ITS FALSE NEIGHBOUR: 'it returns false'. Refute it at one input. -/
def imageStepsWrong : ChangeSpec := { name := "imageSteps", fn := fun _ => fun
  | [d1, d2] => { results := [.lit (.bool false)], args := [d1, d2] }
  | _ => none }
def ImageStepsWrongFalsely : Prop := imageStepsRow.holds Try.pinned (OpenSpec.ofChange imageStepsWrong)

/-- 'commutatorlaw45.ImageLevels': WHATEVER THE INPUT: true; the input reads as it did. -/
def imageLevelsSpec : ChangeSpec := { name := "imageLevels", fn := fun _ => fun
  | [d1, d2, d3] => { results := [.lit (.bool true)], args := [d1, d2, d3] }
  | _ => none }
def imageLevelsRow : OpenClaim := { program := "ytjmidgfkocmihaa", sum := "a5571f2890d21e3d2c64b34ea7a3b6724f61557432e3c1d3e296801723aabf08", func := "commutator/commutatorlaw45.ImageLevels", spec := "imageLevels", apart := false }
def ImageLevelsSaid : Prop := imageLevelsRow.holds Try.pinned (OpenSpec.ofChange imageLevelsSpec)

/-- ITS FALSE NEIGHBOUR: 'it returns false'. Refute it at one input. -/
def imageLevelsWrong : ChangeSpec := { name := "imageLevels", fn := fun _ => fun
  | [d1, d2, d3] => { results := [.lit (.bool false)], args := [d1, d2, d3] }
  | _ => none }
def ImageLevelsWrongFalsely : Prop := imageLevelsRow.holds Try.pinned (OpenSpec.ofChange imageLevelsWrong)

/-- 'commutatorlaw45.ImageHysteresis': WHATEVER THE INPUT: true; the input reads as it did. -/
def imageHysteresisSpec : ChangeSpec := { name := "imageHysteresis", fn := fun _ => fun
  | [d1, d2] => { results := [.lit (.bool true)], args := [d1, d2] }
  | _ => none }
def imageHysteresisRow : OpenClaim := { program := "ytjmidgfkocmihaa", sum := "a5571f2890d21e3d2c64b34ea7a3b6724f61557432e3c1d3e296801723aabf08", func := "commutator/commutatorlaw45.ImageHysteresis", spec := "imageHysteresis", apart := false }
def ImageHysteresisSaid : Prop := imageHysteresisRow.holds Try.pinned (OpenSpec.ofChange imageHysteresisSpec)

/-- ITS FALSE NEIGHBOUR: 'it returns false'. Refute it at one input. -/
def imageHysteresisWrong : ChangeSpec := { name := "imageHysteresis", fn := fun _ => fun
  | [d1, d2] => { results := [.lit (.bool false)], args := [d1, d2] }
  | _ => none }
def ImageHysteresisWrongFalsely : Prop := imageHysteresisRow.holds Try.pinned (OpenSpec.ofChange imageHysteresisWrong)

/-- 'commutatorlaw45.ImageTicks': WHATEVER THE INPUT: true; the input reads as it did. -/
def imageTicksSpec : ChangeSpec := { name := "imageTicks", fn := fun _ => fun
  | [d1, d2] => { results := [.lit (.bool true)], args := [d1, d2] }
  | _ => none }
def imageTicksRow : OpenClaim := { program := "ytjmidgfkocmihaa", sum := "a5571f2890d21e3d2c64b34ea7a3b6724f61557432e3c1d3e296801723aabf08", func := "commutator/commutatorlaw45.ImageTicks", spec := "imageTicks", apart := false }
def ImageTicksSaid : Prop := imageTicksRow.holds Try.pinned (OpenSpec.ofChange imageTicksSpec)

/-- ITS FALSE NEIGHBOUR: 'it returns false'. Refute it at one input. -/
def imageTicksWrong : ChangeSpec := { name := "imageTicks", fn := fun _ => fun
  | [d1, d2] => { results := [.lit (.bool false)], args := [d1, d2] }
  | _ => none }
def ImageTicksWrongFalsely : Prop := imageTicksRow.holds Try.pinned (OpenSpec.ofChange imageTicksWrong)

/-- 'commutatorlaw45.ImageMonotone': WHATEVER THE INPUT: true; the input reads as it did. -/
def imageMonotoneSpec : ChangeSpec := { name := "imageMonotone", fn := fun _ => fun
  | [d1, d2, d3] => { results := [.lit (.bool true)], args := [d1, d2, d3] }
  | _ => none }
def imageMonotoneRow : OpenClaim := { program := "ytjmidgfkocmihaa", sum := "a5571f2890d21e3d2c64b34ea7a3b6724f61557432e3c1d3e296801723aabf08", func := "commutator/commutatorlaw45.ImageMonotone", spec := "imageMonotone", apart := false }
def ImageMonotoneSaid : Prop := imageMonotoneRow.holds Try.pinned (OpenSpec.ofChange imageMonotoneSpec)

/-- ITS FALSE NEIGHBOUR: 'it returns false'. Refute it at one input. -/
def imageMonotoneWrong : ChangeSpec := { name := "imageMonotone", fn := fun _ => fun
  | [d1, d2, d3] => { results := [.lit (.bool false)], args := [d1, d2, d3] }
  | _ => none }
def ImageMonotoneWrongFalsely : Prop := imageMonotoneRow.holds Try.pinned (OpenSpec.ofChange imageMonotoneWrong)

/-- 'commutatorlaw45.ImageCovers': WHATEVER THE INPUT: true; the input reads as it did. -/
def imageCoversSpec : ChangeSpec := { name := "imageCovers", fn := fun _ => fun
  | [d1, d2, d3] => { results := [.lit (.bool true)], args := [d1, d2, d3] }
  | _ => none }
def imageCoversRow : OpenClaim := { program := "ytjmidgfkocmihaa", sum := "a5571f2890d21e3d2c64b34ea7a3b6724f61557432e3c1d3e296801723aabf08", func := "commutator/commutatorlaw45.ImageCovers", spec := "imageCovers", unfollowed := true, recurses := true, apart := false }
def ImageCoversSaid : Prop := imageCoversRow.holds Try.pinned (OpenSpec.ofChange imageCoversSpec)

/-- ITS FALSE NEIGHBOUR: 'it returns false'. Refute it at one input. -/
def imageCoversWrong : ChangeSpec := { name := "imageCovers", fn := fun _ => fun
  | [d1, d2, d3] => { results := [.lit (.bool false)], args := [d1, d2, d3] }
  | _ => none }
def ImageCoversWrongFalsely : Prop := imageCoversRow.holds Try.pinned (OpenSpec.ofChange imageCoversWrong)

/-- 'commutatorlaw45.ImageHotter': WHATEVER THE INPUT: true; the input reads as it did. -/
def imageHotterSpec : ChangeSpec := { name := "imageHotter", fn := fun _ => fun
  | [d1, d2, d3] => { results := [.lit (.bool true)], args := [d1, d2, d3] }
  | _ => none }
def imageHotterRow : OpenClaim := { program := "ytjmidgfkocmihaa", sum := "a5571f2890d21e3d2c64b34ea7a3b6724f61557432e3c1d3e296801723aabf08", func := "commutator/commutatorlaw45.ImageHotter", spec := "imageHotter", unfollowed := true, recurses := true, apart := false }
def ImageHotterSaid : Prop := imageHotterRow.holds Try.pinned (OpenSpec.ofChange imageHotterSpec)

/-- ITS FALSE NEIGHBOUR: 'it returns false'. Refute it at one input. -/
def imageHotterWrong : ChangeSpec := { name := "imageHotter", fn := fun _ => fun
  | [d1, d2, d3] => { results := [.lit (.bool false)], args := [d1, d2, d3] }
  | _ => none }
def ImageHotterWrongFalsely : Prop := imageHotterRow.holds Try.pinned (OpenSpec.ofChange imageHotterWrong)

/- THE SECOND FORM. 'bulk': how many values and letters a reading holds, each counted each time it is reached (what is shared counts as often as it is met; a slice's spare places count too). A statement '..UptoSaid' is the law's where the arguments, and the package variables that the reading takes, are together of bulk at most 1048576: NARROWER than '..Said'. Prove '..Said' where nothing that the law and all that it calls make is longer than what came in: it says more and counts as full. Else prove '..UptoSaid'. A law counts once. -/
mutual
def uptoBulk {H : Type} : DataW H → Nat
  | .lit (.string bytes) => bytes.length + 1
  | .lit _ => 1
  | .nil => 1
  | .ptr d => uptoBulk d + 1
  | .slice elems spare => uptoBulkAll elems + uptoBulkAll spare + 1
  | .agg parts => uptoBulkAll parts + 1
  | .iface _ d => uptoBulk d + 1
  | .map entries => uptoBulkEntries entries + 1
  | .held _ => 1
def uptoBulkAll {H : Type} : List (DataW H) → Nat
  | [] => 0
  | d :: r => uptoBulk d + uptoBulkAll r
def uptoBulkEntries {H : Type} : List (Lit × DataW H) → Nat
  | [] => 0
  | x :: r => uptoBulkEntry x + uptoBulkEntries r
def uptoBulkEntry {H : Type} : Lit × DataW H → Nat
  | (.string bytes, d) => bytes.length + uptoBulk d + 1
  | (_, d) => uptoBulk d + 1
 end
def uptoSmall : (H : Type) → List (DataW H) → Bool := fun _ ds => decide (uptoBulkAll ds ≤ 1048576)
def OpenSpec.upto (s : _root_.Go.ChangeSpec) : _root_.Go.OpenSpec := { _root_.Go.OpenSpec.ofChange s with cond := some uptoSmall }

/-- 'commutatorlaw45.ImageChecks', WHERE WHAT IT READS IS OF BULK AT MOST 1048576: true; the input reads as it did. -/
def imageChecksUptoRow : OpenClaim := { program := "ytjmidgfkocmihaa", sum := "a5571f2890d21e3d2c64b34ea7a3b6724f61557432e3c1d3e296801723aabf08", func := "commutator/commutatorlaw45.ImageChecks", spec := "imageChecks", apart := false, narrowed := true }
def ImageChecksUptoSaid : Prop := imageChecksUptoRow.holds Try.pinned (OpenSpec.upto imageChecksSpec)

/-- 'commutatorlaw45.ImageSteps', WHERE WHAT IT READS IS OF BULK AT MOST 1048576: true; the input reads as it did. -/
def imageStepsUptoRow : OpenClaim := { program := "ytjmidgfkocmihaa", sum := "a5571f2890d21e3d2c64b34ea7a3b6724f61557432e3c1d3e296801723aabf08", func := "commutator/commutatorlaw45.ImageSteps", spec := "imageSteps", apart := false, narrowed := true }
def ImageStepsUptoSaid : Prop := imageStepsUptoRow.holds Try.pinned (OpenSpec.upto imageStepsSpec)

/-- 'commutatorlaw45.ImageLevels', WHERE WHAT IT READS IS OF BULK AT MOST 1048576: true; the input reads as it did. -/
def imageLevelsUptoRow : OpenClaim := { program := "ytjmidgfkocmihaa", sum := "a5571f2890d21e3d2c64b34ea7a3b6724f61557432e3c1d3e296801723aabf08", func := "commutator/commutatorlaw45.ImageLevels", spec := "imageLevels", apart := false, narrowed := true }
def ImageLevelsUptoSaid : Prop := imageLevelsUptoRow.holds Try.pinned (OpenSpec.upto imageLevelsSpec)

/-- 'commutatorlaw45.ImageHysteresis', WHERE WHAT IT READS IS OF BULK AT MOST 1048576: true; the input reads as it did. -/
def imageHysteresisUptoRow : OpenClaim := { program := "ytjmidgfkocmihaa", sum := "a5571f2890d21e3d2c64b34ea7a3b6724f61557432e3c1d3e296801723aabf08", func := "commutator/commutatorlaw45.ImageHysteresis", spec := "imageHysteresis", apart := false, narrowed := true }
def ImageHysteresisUptoSaid : Prop := imageHysteresisUptoRow.holds Try.pinned (OpenSpec.upto imageHysteresisSpec)

/-- 'commutatorlaw45.ImageTicks', WHERE WHAT IT READS IS OF BULK AT MOST 1048576: true; the input reads as it did. -/
def imageTicksUptoRow : OpenClaim := { program := "ytjmidgfkocmihaa", sum := "a5571f2890d21e3d2c64b34ea7a3b6724f61557432e3c1d3e296801723aabf08", func := "commutator/commutatorlaw45.ImageTicks", spec := "imageTicks", apart := false, narrowed := true }
def ImageTicksUptoSaid : Prop := imageTicksUptoRow.holds Try.pinned (OpenSpec.upto imageTicksSpec)

/-- 'commutatorlaw45.ImageMonotone', WHERE WHAT IT READS IS OF BULK AT MOST 1048576: true; the input reads as it did. -/
def imageMonotoneUptoRow : OpenClaim := { program := "ytjmidgfkocmihaa", sum := "a5571f2890d21e3d2c64b34ea7a3b6724f61557432e3c1d3e296801723aabf08", func := "commutator/commutatorlaw45.ImageMonotone", spec := "imageMonotone", apart := false, narrowed := true }
def ImageMonotoneUptoSaid : Prop := imageMonotoneUptoRow.holds Try.pinned (OpenSpec.upto imageMonotoneSpec)

/-- 'commutatorlaw45.ImageCovers', WHERE WHAT IT READS IS OF BULK AT MOST 1048576: true; the input reads as it did. -/
def imageCoversUptoRow : OpenClaim := { program := "ytjmidgfkocmihaa", sum := "a5571f2890d21e3d2c64b34ea7a3b6724f61557432e3c1d3e296801723aabf08", func := "commutator/commutatorlaw45.ImageCovers", spec := "imageCovers", unfollowed := true, recurses := true, apart := false, narrowed := true }
def ImageCoversUptoSaid : Prop := imageCoversUptoRow.holds Try.pinned (OpenSpec.upto imageCoversSpec)

/-- 'commutatorlaw45.ImageHotter', WHERE WHAT IT READS IS OF BULK AT MOST 1048576: true; the input reads as it did. -/
def imageHotterUptoRow : OpenClaim := { program := "ytjmidgfkocmihaa", sum := "a5571f2890d21e3d2c64b34ea7a3b6724f61557432e3c1d3e296801723aabf08", func := "commutator/commutatorlaw45.ImageHotter", spec := "imageHotter", unfollowed := true, recurses := true, apart := false, narrowed := true }
def ImageHotterUptoSaid : Prop := imageHotterUptoRow.holds Try.pinned (OpenSpec.upto imageHotterSpec)

end Rows
end Go.Proofs.Ytjmidgfkocmihaa
