/-
  No cell of these rows narrows 'for every input' (looked for: loops, veiled, ifaces, maps, wideKeys, modest, calm, conditions, laid).
  DERIVED. THE GIVEN ROWS OF THIS SEAT. 8 by the template 'for every input the law returns true; each argument reads behind the call as it read before'; 0 by the template 'total and deterministic' (their statements: YtpndkmppncpkgaaTotals.lean).
  GIVEN WITH THE SEED: the statements are not yours to turn. If you find one false, say at which input.
  Laid BY PROGRAM, IN A SANDBOX (cutbox-rows.mjs): the forced cells as the released guide's own fill.sh prints them over the translation d2410312cb77df29… (all of the seat's roots in one cut). By AI agents, Wed Nov 11 2026. No macro, syntax, notation, axiom, sorry.
-/
import Derived.Test.YtpndkmppncpkgaaChecked
import GoSem.Claim
import GoSem.ClaimJoined
import GoSem.ClaimMapViews
import Derived.JoinedTies
import Derived.KernelRfl
namespace Go.Proofs.Ytpndkmppncpkgaa
/- THE CELL 'sum', in the pinned program and in every row, IS THE sha256 OF THE DUMP (.gsa) THAT YtpndkmppncpkgaaProg.lean LOADS. Nothing in Lean hashes anything: it is a label: what it is worth is what the hold of that sum in a sandbox is worth. -/
noncomputable def Try.pinned : Pinned := { name := "ytpndkmppncpkgaa", sum := "d2410312cb77df29b98d20197011b3d62c3fb29af5a2b664f3926b69dde4285f", checked := Try.checked }
namespace Rows
def none {H : Type} : Left H := { results := [], args := [] }

/-- 'commutatorlaw37.ProfileEnds': WHATEVER THE INPUT: true; the input reads as it did. -/
def profileEndsSpec : ChangeSpec := { name := "profileEnds", fn := fun _ => fun
  | [d] => { results := [.lit (.bool true)], args := [d] }
  | _ => none }
def profileEndsRow : OpenClaim := { program := "ytpndkmppncpkgaa", sum := "d2410312cb77df29b98d20197011b3d62c3fb29af5a2b664f3926b69dde4285f", func := "commutator/commutatorlaw37.ProfileEnds", spec := "profileEnds", unfollowed := true, recurses := true, apart := false }
def ProfileEndsSaid : Prop := profileEndsRow.holds Try.pinned (OpenSpec.ofChange profileEndsSpec)

/-- ITS FALSE NEIGHBOUR: 'it returns false'. Refute it at one input. -/
def profileEndsWrong : ChangeSpec := { name := "profileEnds", fn := fun _ => fun
  | [d] => { results := [.lit (.bool false)], args := [d] }
  | _ => none }
def ProfileEndsWrongFalsely : Prop := profileEndsRow.holds Try.pinned (OpenSpec.ofChange profileEndsWrong)

/-- 'commutatorlaw37.ProfileSteps': WHATEVER THE INPUT: true; the input reads as it did. -/
def profileStepsSpec : ChangeSpec := { name := "profileSteps", fn := fun _ => fun
  | [d1, d2] => { results := [.lit (.bool true)], args := [d1, d2] }
  | _ => none }
def profileStepsRow : OpenClaim := { program := "ytpndkmppncpkgaa", sum := "d2410312cb77df29b98d20197011b3d62c3fb29af5a2b664f3926b69dde4285f", func := "commutator/commutatorlaw37.ProfileSteps", spec := "profileSteps", unfollowed := true, recurses := true, apart := false }
def ProfileStepsSaid : Prop := profileStepsRow.holds Try.pinned (OpenSpec.ofChange profileStepsSpec)

/-- ITS FALSE NEIGHBOUR: 'it returns false'. Refute it at one input. -/
def profileStepsWrong : ChangeSpec := { name := "profileSteps", fn := fun _ => fun
  | [d1, d2] => { results := [.lit (.bool false)], args := [d1, d2] }
  | _ => none }
def ProfileStepsWrongFalsely : Prop := profileStepsRow.holds Try.pinned (OpenSpec.ofChange profileStepsWrong)

/-- 'commutatorlaw37.ProfileSwaps': WHATEVER THE INPUT: true; the input reads as it did. -/
def profileSwapsSpec : ChangeSpec := { name := "profileSwaps", fn := fun _ => fun
  | [d1, d2] => { results := [.lit (.bool true)], args := [d1, d2] }
  | _ => none }
def profileSwapsRow : OpenClaim := { program := "ytpndkmppncpkgaa", sum := "d2410312cb77df29b98d20197011b3d62c3fb29af5a2b664f3926b69dde4285f", func := "commutator/commutatorlaw37.ProfileSwaps", spec := "profileSwaps", unfollowed := true, recurses := true, apart := false }
def ProfileSwapsSaid : Prop := profileSwapsRow.holds Try.pinned (OpenSpec.ofChange profileSwapsSpec)

/-- ITS FALSE NEIGHBOUR: 'it returns false'. Refute it at one input. -/
def profileSwapsWrong : ChangeSpec := { name := "profileSwaps", fn := fun _ => fun
  | [d1, d2] => { results := [.lit (.bool false)], args := [d1, d2] }
  | _ => none }
def ProfileSwapsWrongFalsely : Prop := profileSwapsRow.holds Try.pinned (OpenSpec.ofChange profileSwapsWrong)

/-- 'commutatorlaw37.ProfileLimits': WHATEVER THE INPUT: true; the input reads as it did. -/
def profileLimitsSpec : ChangeSpec := { name := "profileLimits", fn := fun _ => fun
  | [d1, d2] => { results := [.lit (.bool true)], args := [d1, d2] }
  | _ => none }
def profileLimitsRow : OpenClaim := { program := "ytpndkmppncpkgaa", sum := "d2410312cb77df29b98d20197011b3d62c3fb29af5a2b664f3926b69dde4285f", func := "commutator/commutatorlaw37.ProfileLimits", spec := "profileLimits", unfollowed := true, recurses := true, apart := false }
def ProfileLimitsSaid : Prop := profileLimitsRow.holds Try.pinned (OpenSpec.ofChange profileLimitsSpec)

/-- ITS FALSE NEIGHBOUR: 'it returns false'. Refute it at one input. -/
def profileLimitsWrong : ChangeSpec := { name := "profileLimits", fn := fun _ => fun
  | [d1, d2] => { results := [.lit (.bool false)], args := [d1, d2] }
  | _ => none }
def ProfileLimitsWrongFalsely : Prop := profileLimitsRow.holds Try.pinned (OpenSpec.ofChange profileLimitsWrong)

/-- 'commutatorlaw37.ProfileComputes': WHATEVER THE INPUT: true; the input reads as it did. -/
def profileComputesSpec : ChangeSpec := { name := "profileComputes", fn := fun _ => fun
  | [d1, d2] => { results := [.lit (.bool true)], args := [d1, d2] }
  | _ => none }
def profileComputesRow : OpenClaim := { program := "ytpndkmppncpkgaa", sum := "d2410312cb77df29b98d20197011b3d62c3fb29af5a2b664f3926b69dde4285f", func := "commutator/commutatorlaw37.ProfileComputes", spec := "profileComputes", unfollowed := true, recurses := true, apart := false }
def ProfileComputesSaid : Prop := profileComputesRow.holds Try.pinned (OpenSpec.ofChange profileComputesSpec)

/-- ITS FALSE NEIGHBOUR: 'it returns false'. Refute it at one input. -/
def profileComputesWrong : ChangeSpec := { name := "profileComputes", fn := fun _ => fun
  | [d1, d2] => { results := [.lit (.bool false)], args := [d1, d2] }
  | _ => none }
def ProfileComputesWrongFalsely : Prop := profileComputesRow.holds Try.pinned (OpenSpec.ofChange profileComputesWrong)

/-- 'commutatorlaw37.ProfileFilters': WHATEVER THE INPUT: true; the input reads as it did. -/
def profileFiltersSpec : ChangeSpec := { name := "profileFilters", fn := fun _ => fun
  | [d1, d2] => { results := [.lit (.bool true)], args := [d1, d2] }
  | _ => none }
def profileFiltersRow : OpenClaim := { program := "ytpndkmppncpkgaa", sum := "d2410312cb77df29b98d20197011b3d62c3fb29af5a2b664f3926b69dde4285f", func := "commutator/commutatorlaw37.ProfileFilters", spec := "profileFilters", unfollowed := true, recurses := true, apart := false }
def ProfileFiltersSaid : Prop := profileFiltersRow.holds Try.pinned (OpenSpec.ofChange profileFiltersSpec)

/-- ITS FALSE NEIGHBOUR: 'it returns false'. Refute it at one input. -/
def profileFiltersWrong : ChangeSpec := { name := "profileFilters", fn := fun _ => fun
  | [d1, d2] => { results := [.lit (.bool false)], args := [d1, d2] }
  | _ => none }
def ProfileFiltersWrongFalsely : Prop := profileFiltersRow.holds Try.pinned (OpenSpec.ofChange profileFiltersWrong)

/-- 'commutatorlaw37.ProfileStops': WHATEVER THE INPUT: true; the input reads as it did. -/
def profileStopsSpec : ChangeSpec := { name := "profileStops", fn := fun _ => fun
  | [d1, d2, d3] => { results := [.lit (.bool true)], args := [d1, d2, d3] }
  | _ => none }
def profileStopsRow : OpenClaim := { program := "ytpndkmppncpkgaa", sum := "d2410312cb77df29b98d20197011b3d62c3fb29af5a2b664f3926b69dde4285f", func := "commutator/commutatorlaw37.ProfileStops", spec := "profileStops", unfollowed := true, recurses := true, apart := false }
def ProfileStopsSaid : Prop := profileStopsRow.holds Try.pinned (OpenSpec.ofChange profileStopsSpec)

/-- ITS FALSE NEIGHBOUR: 'it returns false'. Refute it at one input. -/
def profileStopsWrong : ChangeSpec := { name := "profileStops", fn := fun _ => fun
  | [d1, d2, d3] => { results := [.lit (.bool false)], args := [d1, d2, d3] }
  | _ => none }
def ProfileStopsWrongFalsely : Prop := profileStopsRow.holds Try.pinned (OpenSpec.ofChange profileStopsWrong)

/-- 'commutatorlaw37.ProfileFeeds': WHATEVER THE INPUT: true; the input reads as it did. -/
def profileFeedsSpec : ChangeSpec := { name := "profileFeeds", fn := fun _ => fun
  | [d] => { results := [.lit (.bool true)], args := [d] }
  | _ => none }
def profileFeedsRow : OpenClaim := { program := "ytpndkmppncpkgaa", sum := "d2410312cb77df29b98d20197011b3d62c3fb29af5a2b664f3926b69dde4285f", func := "commutator/commutatorlaw37.ProfileFeeds", spec := "profileFeeds", unfollowed := true, recurses := true, apart := false }
def ProfileFeedsSaid : Prop := profileFeedsRow.holds Try.pinned (OpenSpec.ofChange profileFeedsSpec)

/-- ITS FALSE NEIGHBOUR: 'it returns false'. Refute it at one input. -/
def profileFeedsWrong : ChangeSpec := { name := "profileFeeds", fn := fun _ => fun
  | [d] => { results := [.lit (.bool false)], args := [d] }
  | _ => none }
def ProfileFeedsWrongFalsely : Prop := profileFeedsRow.holds Try.pinned (OpenSpec.ofChange profileFeedsWrong)

/- THE SECOND FORM. 'bulk': how many values and letters a reading holds, each counted each time it is reached (what is shared counts as often as it is met; a slice's spare places count too). A statement '..UptoSaid' is the law's where the arguments, and the package variables that the reading takes, are together of bulk at most 1048576: NARROWER than '..Said'. Prove '..Said' where nothing that the law and all that it calls make is longer than what came in: it says more and counts as full. Else prove '..UptoSaid'. A law counts once. -/
mutual
def uptoBulk {H : Type} : DataW H → Nat
  | .lit (.string bytes) => bytes.length + 1
  | .lit _ => 1
  | .nil => 1
  | .ptr d => uptoBulk d + 1
  | .slice elems spare => uptoBulkAll elems + uptoBulkAll spare + 1
  | .agg parts => uptoBulkAll parts + 1
  | .iface _ d => uptoBulk d + 1
  | .map entries => uptoBulkEntries entries + 1
  | .held _ => 1
def uptoBulkAll {H : Type} : List (DataW H) → Nat
  | [] => 0
  | d :: r => uptoBulk d + uptoBulkAll r
def uptoBulkEntries {H : Type} : List (Lit × DataW H) → Nat
  | [] => 0
  | x :: r => uptoBulkEntry x + uptoBulkEntries r
def uptoBulkEntry {H : Type} : Lit × DataW H → Nat
  | (.string bytes, d) => bytes.length + uptoBulk d + 1
  | (_, d) => uptoBulk d + 1
 end
def uptoSmall : (H : Type) → List (DataW H) → Bool := fun _ ds => decide (uptoBulkAll ds ≤ 1048576)
def OpenSpec.upto (s : _root_.Go.ChangeSpec) : _root_.Go.OpenSpec := { _root_.Go.OpenSpec.ofChange s with cond := some uptoSmall }

/-- 'commutatorlaw37.ProfileEnds', WHERE WHAT IT READS IS OF BULK AT MOST 1048576: true; the input reads as it did. -/
def profileEndsUptoRow : OpenClaim := { program := "ytpndkmppncpkgaa", sum := "d2410312cb77df29b98d20197011b3d62c3fb29af5a2b664f3926b69dde4285f", func := "commutator/commutatorlaw37.ProfileEnds", spec := "profileEnds", unfollowed := true, recurses := true, apart := false, narrowed := true }
def ProfileEndsUptoSaid : Prop := profileEndsUptoRow.holds Try.pinned (OpenSpec.upto profileEndsSpec)

/-- 'commutatorlaw37.ProfileSteps', WHERE WHAT IT READS IS OF BULK AT MOST 1048576: true; the input reads as it did. -/
def profileStepsUptoRow : OpenClaim := { program := "ytpndkmppncpkgaa", sum := "d2410312cb77df29b98d20197011b3d62c3fb29af5a2b664f3926b69dde4285f", func := "commutator/commutatorlaw37.ProfileSteps", spec := "profileSteps", unfollowed := true, recurses := true, apart := false, narrowed := true }
def ProfileStepsUptoSaid : Prop := profileStepsUptoRow.holds Try.pinned (OpenSpec.upto profileStepsSpec)

/-- 'commutatorlaw37.ProfileSwaps', WHERE WHAT IT READS IS OF BULK AT MOST 1048576: true; the input reads as it did. -/
def profileSwapsUptoRow : OpenClaim := { program := "ytpndkmppncpkgaa", sum := "d2410312cb77df29b98d20197011b3d62c3fb29af5a2b664f3926b69dde4285f", func := "commutator/commutatorlaw37.ProfileSwaps", spec := "profileSwaps", unfollowed := true, recurses := true, apart := false, narrowed := true }
def ProfileSwapsUptoSaid : Prop := profileSwapsUptoRow.holds Try.pinned (OpenSpec.upto profileSwapsSpec)

/-- 'commutatorlaw37.ProfileLimits', WHERE WHAT IT READS IS OF BULK AT MOST 1048576: true; the input reads as it did. -/
def profileLimitsUptoRow : OpenClaim := { program := "ytpndkmppncpkgaa", sum := "d2410312cb77df29b98d20197011b3d62c3fb29af5a2b664f3926b69dde4285f", func := "commutator/commutatorlaw37.ProfileLimits", spec := "profileLimits", unfollowed := true, recurses := true, apart := false, narrowed := true }
def ProfileLimitsUptoSaid : Prop := profileLimitsUptoRow.holds Try.pinned (OpenSpec.upto profileLimitsSpec)

/-- 'commutatorlaw37.ProfileComputes', WHERE WHAT IT READS IS OF BULK AT MOST 1048576: true; the input reads as it did. -/
def profileComputesUptoRow : OpenClaim := { program := "ytpndkmppncpkgaa", sum := "d2410312cb77df29b98d20197011b3d62c3fb29af5a2b664f3926b69dde4285f", func := "commutator/commutatorlaw37.ProfileComputes", spec := "profileComputes", unfollowed := true, recurses := true, apart := false, narrowed := true }
def ProfileComputesUptoSaid : Prop := profileComputesUptoRow.holds Try.pinned (OpenSpec.upto profileComputesSpec)

/-- 'commutatorlaw37.ProfileFilters', WHERE WHAT IT READS IS OF BULK AT MOST 1048576: true; the input reads as it did. -/
def profileFiltersUptoRow : OpenClaim := { program := "ytpndkmppncpkgaa", sum := "d2410312cb77df29b98d20197011b3d62c3fb29af5a2b664f3926b69dde4285f", func := "commutator/commutatorlaw37.ProfileFilters", spec := "profileFilters", unfollowed := true, recurses := true, apart := false, narrowed := true }
def ProfileFiltersUptoSaid : Prop := profileFiltersUptoRow.holds Try.pinned (OpenSpec.upto profileFiltersSpec)

/-- 'commutatorlaw37.ProfileStops', WHERE WHAT IT READS IS OF BULK AT MOST 1048576: true; the input reads as it did. -/
def profileStopsUptoRow : OpenClaim := { program := "ytpndkmppncpkgaa", sum := "d2410312cb77df29b98d20197011b3d62c3fb29af5a2b664f3926b69dde4285f", func := "commutator/commutatorlaw37.ProfileStops", spec := "profileStops", unfollowed := true, recurses := true, apart := false, narrowed := true }
def ProfileStopsUptoSaid : Prop := profileStopsUptoRow.holds Try.pinned (OpenSpec.upto profileStopsSpec)

/-- 'commutatorlaw37.ProfileFeeds', WHERE WHAT IT READS IS OF BULK AT MOST 1048576: true; the input reads as it did. -/
def profileFeedsUptoRow : OpenClaim := { program := "ytpndkmppncpkgaa", sum := "d2410312cb77df29b98d20197011b3d62c3fb29af5a2b664f3926b69dde4285f", func := "commutator/commutatorlaw37.ProfileFeeds", spec := "profileFeeds", unfollowed := true, recurses := true, apart := false, narrowed := true }
def ProfileFeedsUptoSaid : Prop := profileFeedsUptoRow.holds Try.pinned (OpenSpec.upto profileFeedsSpec)

end Rows
end Go.Proofs.Ytpndkmppncpkgaa
