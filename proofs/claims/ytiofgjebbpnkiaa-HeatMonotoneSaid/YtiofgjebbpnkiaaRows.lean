/-
  No cell of these rows narrows 'for every input' (looked for: loops, veiled, ifaces, maps, wideKeys, modest, calm, conditions, laid).
  DERIVED. THE GIVEN ROWS OF THIS SEAT. 8 by the template 'for every input the law returns true; each argument reads behind the call as it read before'; 0 by the template 'total and deterministic' (their statements: YtiofgjebbpnkiaaTotals.lean).
  GIVEN WITH THE SEED: the statements are not yours to turn. If you find one false, say at which input.
  Laid BY PROGRAM, IN A SANDBOX (cutbox-rows.mjs): the forced cells as the released guide's own fill.sh prints them over the translation d93a48fc7ca4cd8d… (all of the seat's roots in one cut). By AI agents, Wed Nov 11 2026. No macro, syntax, notation, axiom, sorry.
-/
import Derived.Test.YtiofgjebbpnkiaaChecked
import GoSem.Claim
import GoSem.ClaimJoined
import GoSem.ClaimMapViews
import Derived.JoinedTies
import Derived.KernelRfl
namespace Go.Proofs.Ytiofgjebbpnkiaa
/- THE CELL 'sum', in the pinned program and in every row, IS THE sha256 OF THE DUMP (.gsa) THAT YtiofgjebbpnkiaaProg.lean LOADS. Nothing in Lean hashes anything: it is a label: what it is worth is what the hold of that sum in a sandbox is worth. -/
noncomputable def Try.pinned : Pinned := { name := "ytiofgjebbpnkiaa", sum := "d93a48fc7ca4cd8de40dfc7095887205c8da13f36d0934c956e6e8046caf3706", checked := Try.checked }
namespace Rows
def none {H : Type} : Left H := { results := [], args := [] }

/-- 'commutatorlaw30.HeatChecks': WHATEVER THE INPUT: true; the input reads as it did. -/
def heatChecksSpec : ChangeSpec := { name := "heatChecks", fn := fun _ => fun
  | [d] => { results := [.lit (.bool true)], args := [d] }
  | _ => none }
def heatChecksRow : OpenClaim := { program := "ytiofgjebbpnkiaa", sum := "d93a48fc7ca4cd8de40dfc7095887205c8da13f36d0934c956e6e8046caf3706", func := "commutator/commutatorlaw30.HeatChecks", spec := "heatChecks", apart := false }
def HeatChecksSaid : Prop := heatChecksRow.holds Try.pinned (OpenSpec.ofChange heatChecksSpec)

/-- ITS FALSE NEIGHBOUR: 'it returns false'. Refute it at one input. -/
def heatChecksWrong : ChangeSpec := { name := "heatChecks", fn := fun _ => fun
  | [d] => { results := [.lit (.bool false)], args := [d] }
  | _ => none }
def HeatChecksWrongFalsely : Prop := heatChecksRow.holds Try.pinned (OpenSpec.ofChange heatChecksWrong)

/-- 'commutatorlaw30.HeatSteps': WHATEVER THE INPUT: true; the input reads as it did. -/
def heatStepsSpec : ChangeSpec := { name := "heatSteps", fn := fun _ => fun
  | [d1, d2] => { results := [.lit (.bool true)], args := [d1, d2] }
  | _ => none }
def heatStepsRow : OpenClaim := { program := "ytiofgjebbpnkiaa", sum := "d93a48fc7ca4cd8de40dfc7095887205c8da13f36d0934c956e6e8046caf3706", func := "commutator/commutatorlaw30.HeatSteps", spec := "heatSteps", apart := false }
def HeatStepsSaid : Prop := heatStepsRow.holds Try.pinned (OpenSpec.ofChange heatStepsSpec)

/-- ITS FALSE NEIGHBOUR: 'it returns false'. Refute it at one input. -/
def heatStepsWrong : ChangeSpec := { name := "heatSteps", fn := fun _ => fun
  | [d1, d2] => { results := [.lit (.bool false)], args := [d1, d2] }
  | _ => none }
def HeatStepsWrongFalsely : Prop := heatStepsRow.holds Try.pinned (OpenSpec.ofChange heatStepsWrong)

/-- 'commutatorlaw30.HeatMonotone': WHATEVER THE INPUT: true; the input reads as it did. -/
def heatMonotoneSpec : ChangeSpec := { name := "heatMonotone", fn := fun _ => fun
  | [d1, d2, d3] => { results := [.lit (.bool true)], args := [d1, d2, d3] }
  | _ => none }
def heatMonotoneRow : OpenClaim := { program := "ytiofgjebbpnkiaa", sum := "d93a48fc7ca4cd8de40dfc7095887205c8da13f36d0934c956e6e8046caf3706", func := "commutator/commutatorlaw30.HeatMonotone", spec := "heatMonotone", apart := false }
def HeatMonotoneSaid : Prop := heatMonotoneRow.holds Try.pinned (OpenSpec.ofChange heatMonotoneSpec)

/-- ITS FALSE NEIGHBOUR: 'it returns false'. Refute it at one input. -/
def heatMonotoneWrong : ChangeSpec := { name := "heatMonotone", fn := fun _ => fun
  | [d1, d2, d3] => { results := [.lit (.bool false)], args := [d1, d2, d3] }
  | _ => none }
def HeatMonotoneWrongFalsely : Prop := heatMonotoneRow.holds Try.pinned (OpenSpec.ofChange heatMonotoneWrong)

/-- 'commutatorlaw30.HeatBetween': WHATEVER THE INPUT: true; the input reads as it did. -/
def heatBetweenSpec : ChangeSpec := { name := "heatBetween", fn := fun _ => fun
  | [d1, d2] => { results := [.lit (.bool true)], args := [d1, d2] }
  | _ => none }
def heatBetweenRow : OpenClaim := { program := "ytiofgjebbpnkiaa", sum := "d93a48fc7ca4cd8de40dfc7095887205c8da13f36d0934c956e6e8046caf3706", func := "commutator/commutatorlaw30.HeatBetween", spec := "heatBetween", apart := false }
def HeatBetweenSaid : Prop := heatBetweenRow.holds Try.pinned (OpenSpec.ofChange heatBetweenSpec)

/-- ITS FALSE NEIGHBOUR: 'it returns false'. Refute it at one input. -/
def heatBetweenWrong : ChangeSpec := { name := "heatBetween", fn := fun _ => fun
  | [d1, d2] => { results := [.lit (.bool false)], args := [d1, d2] }
  | _ => none }
def HeatBetweenWrongFalsely : Prop := heatBetweenRow.holds Try.pinned (OpenSpec.ofChange heatBetweenWrong)

/-- 'commutatorlaw30.HeatConserves': WHATEVER THE INPUT: true; the input reads as it did. -/
def heatConservesSpec : ChangeSpec := { name := "heatConserves", fn := fun _ => fun
  | [d1, d2] => { results := [.lit (.bool true)], args := [d1, d2] }
  | _ => none }
def heatConservesRow : OpenClaim := { program := "ytiofgjebbpnkiaa", sum := "d93a48fc7ca4cd8de40dfc7095887205c8da13f36d0934c956e6e8046caf3706", func := "commutator/commutatorlaw30.HeatConserves", spec := "heatConserves", apart := false }
def HeatConservesSaid : Prop := heatConservesRow.holds Try.pinned (OpenSpec.ofChange heatConservesSpec)

/-- ITS FALSE NEIGHBOUR: 'it returns false'. Refute it at one input. -/
def heatConservesWrong : ChangeSpec := { name := "heatConserves", fn := fun _ => fun
  | [d1, d2] => { results := [.lit (.bool false)], args := [d1, d2] }
  | _ => none }
def HeatConservesWrongFalsely : Prop := heatConservesRow.holds Try.pinned (OpenSpec.ofChange heatConservesWrong)

/-- 'commutatorlaw30.HeatPower': WHATEVER THE INPUT: true; the input reads as it did. -/
def heatPowerSpec : ChangeSpec := { name := "heatPower", fn := fun _ => fun
  | [d1, d2] => { results := [.lit (.bool true)], args := [d1, d2] }
  | _ => none }
def heatPowerRow : OpenClaim := { program := "ytiofgjebbpnkiaa", sum := "d93a48fc7ca4cd8de40dfc7095887205c8da13f36d0934c956e6e8046caf3706", func := "commutator/commutatorlaw30.HeatPower", spec := "heatPower", apart := false }
def HeatPowerSaid : Prop := heatPowerRow.holds Try.pinned (OpenSpec.ofChange heatPowerSpec)

/-- ITS FALSE NEIGHBOUR: 'it returns false'. Refute it at one input. -/
def heatPowerWrong : ChangeSpec := { name := "heatPower", fn := fun _ => fun
  | [d1, d2] => { results := [.lit (.bool false)], args := [d1, d2] }
  | _ => none }
def HeatPowerWrongFalsely : Prop := heatPowerRow.holds Try.pinned (OpenSpec.ofChange heatPowerWrong)

/-- 'commutatorlaw30.HeatStarts': WHATEVER THE INPUT: true; the input reads as it did. -/
def heatStartsSpec : ChangeSpec := { name := "heatStarts", fn := fun _ => fun
  | [d1, d2] => { results := [.lit (.bool true)], args := [d1, d2] }
  | _ => none }
def heatStartsRow : OpenClaim := { program := "ytiofgjebbpnkiaa", sum := "d93a48fc7ca4cd8de40dfc7095887205c8da13f36d0934c956e6e8046caf3706", func := "commutator/commutatorlaw30.HeatStarts", spec := "heatStarts", apart := false }
def HeatStartsSaid : Prop := heatStartsRow.holds Try.pinned (OpenSpec.ofChange heatStartsSpec)

/-- ITS FALSE NEIGHBOUR: 'it returns false'. Refute it at one input. -/
def heatStartsWrong : ChangeSpec := { name := "heatStarts", fn := fun _ => fun
  | [d1, d2] => { results := [.lit (.bool false)], args := [d1, d2] }
  | _ => none }
def HeatStartsWrongFalsely : Prop := heatStartsRow.holds Try.pinned (OpenSpec.ofChange heatStartsWrong)

/-- 'commutatorlaw30.HeatLosses': WHATEVER THE INPUT: true; the input reads as it did. -/
def heatLossesSpec : ChangeSpec := { name := "heatLosses", fn := fun _ => fun
  | [d1, d2, d3] => { results := [.lit (.bool true)], args := [d1, d2, d3] }
  | _ => none }
def heatLossesRow : OpenClaim := { program := "ytiofgjebbpnkiaa", sum := "d93a48fc7ca4cd8de40dfc7095887205c8da13f36d0934c956e6e8046caf3706", func := "commutator/commutatorlaw30.HeatLosses", spec := "heatLosses", apart := false }
def HeatLossesSaid : Prop := heatLossesRow.holds Try.pinned (OpenSpec.ofChange heatLossesSpec)

/-- ITS FALSE NEIGHBOUR: 'it returns false'. Refute it at one input. -/
def heatLossesWrong : ChangeSpec := { name := "heatLosses", fn := fun _ => fun
  | [d1, d2, d3] => { results := [.lit (.bool false)], args := [d1, d2, d3] }
  | _ => none }
def HeatLossesWrongFalsely : Prop := heatLossesRow.holds Try.pinned (OpenSpec.ofChange heatLossesWrong)

/- THE SECOND FORM. 'bulk': how many values and letters a reading holds, each counted each time it is reached (what is shared counts as often as it is met; a slice's spare places count too). A statement '..UptoSaid' is the law's where the arguments, and the package variables that the reading takes, are together of bulk at most 1048576: NARROWER than '..Said'. Prove '..Said' where nothing that the law and all that it calls make is longer than what came in: it says more and counts as full. Else prove '..UptoSaid'. A law counts once. -/
mutual
def uptoBulk {H : Type} : DataW H → Nat
  | .lit (.string bytes) => bytes.length + 1
  | .lit _ => 1
  | .nil => 1
  | .ptr d => uptoBulk d + 1
  | .slice elems spare => uptoBulkAll elems + uptoBulkAll spare + 1
  | .agg parts => uptoBulkAll parts + 1
  | .iface _ d => uptoBulk d + 1
  | .map entries => uptoBulkEntries entries + 1
  | .held _ => 1
def uptoBulkAll {H : Type} : List (DataW H) → Nat
  | [] => 0
  | d :: r => uptoBulk d + uptoBulkAll r
def uptoBulkEntries {H : Type} : List (Lit × DataW H) → Nat
  | [] => 0
  | x :: r => uptoBulkEntry x + uptoBulkEntries r
def uptoBulkEntry {H : Type} : Lit × DataW H → Nat
  | (.string bytes, d) => bytes.length + uptoBulk d + 1
  | (_, d) => uptoBulk d + 1
 end
def uptoSmall : (H : Type) → List (DataW H) → Bool := fun _ ds => decide (uptoBulkAll ds ≤ 1048576)
def OpenSpec.upto (s : _root_.Go.ChangeSpec) : _root_.Go.OpenSpec := { _root_.Go.OpenSpec.ofChange s with cond := some uptoSmall }

/-- 'commutatorlaw30.HeatChecks', WHERE WHAT IT READS IS OF BULK AT MOST 1048576: true; the input reads as it did. -/
def heatChecksUptoRow : OpenClaim := { program := "ytiofgjebbpnkiaa", sum := "d93a48fc7ca4cd8de40dfc7095887205c8da13f36d0934c956e6e8046caf3706", func := "commutator/commutatorlaw30.HeatChecks", spec := "heatChecks", apart := false, narrowed := true }
def HeatChecksUptoSaid : Prop := heatChecksUptoRow.holds Try.pinned (OpenSpec.upto heatChecksSpec)

/-- 'commutatorlaw30.HeatSteps', WHERE WHAT IT READS IS OF BULK AT MOST 1048576: true; the input reads as it did. -/
def heatStepsUptoRow : OpenClaim := { program := "ytiofgjebbpnkiaa", sum := "d93a48fc7ca4cd8de40dfc7095887205c8da13f36d0934c956e6e8046caf3706", func := "commutator/commutatorlaw30.HeatSteps", spec := "heatSteps", apart := false, narrowed := true }
def HeatStepsUptoSaid : Prop := heatStepsUptoRow.holds Try.pinned (OpenSpec.upto heatStepsSpec)

/-- 'commutatorlaw30.HeatMonotone', WHERE WHAT IT READS IS OF BULK AT MOST 1048576: true; the input reads as it did. -/
def heatMonotoneUptoRow : OpenClaim := { program := "ytiofgjebbpnkiaa", sum := "d93a48fc7ca4cd8de40dfc7095887205c8da13f36d0934c956e6e8046caf3706", func := "commutator/commutatorlaw30.HeatMonotone", spec := "heatMonotone", apart := false, narrowed := true }
def HeatMonotoneUptoSaid : Prop := heatMonotoneUptoRow.holds Try.pinned (OpenSpec.upto heatMonotoneSpec)

/-- 'commutatorlaw30.HeatBetween', WHERE WHAT IT READS IS OF BULK AT MOST 1048576: true; the input reads as it did. -/
def heatBetweenUptoRow : OpenClaim := { program := "ytiofgjebbpnkiaa", sum := "d93a48fc7ca4cd8de40dfc7095887205c8da13f36d0934c956e6e8046caf3706", func := "commutator/commutatorlaw30.HeatBetween", spec := "heatBetween", apart := false, narrowed := true }
def HeatBetweenUptoSaid : Prop := heatBetweenUptoRow.holds Try.pinned (OpenSpec.upto heatBetweenSpec)

/-- 'commutatorlaw30.HeatConserves', WHERE WHAT IT READS IS OF BULK AT MOST 1048576: true; the input reads as it did. -/
def heatConservesUptoRow : OpenClaim := { program := "ytiofgjebbpnkiaa", sum := "d93a48fc7ca4cd8de40dfc7095887205c8da13f36d0934c956e6e8046caf3706", func := "commutator/commutatorlaw30.HeatConserves", spec := "heatConserves", apart := false, narrowed := true }
def HeatConservesUptoSaid : Prop := heatConservesUptoRow.holds Try.pinned (OpenSpec.upto heatConservesSpec)

/-- 'commutatorlaw30.HeatPower', WHERE WHAT IT READS IS OF BULK AT MOST 1048576: true; the input reads as it did. -/
def heatPowerUptoRow : OpenClaim := { program := "ytiofgjebbpnkiaa", sum := "d93a48fc7ca4cd8de40dfc7095887205c8da13f36d0934c956e6e8046caf3706", func := "commutator/commutatorlaw30.HeatPower", spec := "heatPower", apart := false, narrowed := true }
def HeatPowerUptoSaid : Prop := heatPowerUptoRow.holds Try.pinned (OpenSpec.upto heatPowerSpec)

/-- 'commutatorlaw30.HeatStarts', WHERE WHAT IT READS IS OF BULK AT MOST 1048576: true; the input reads as it did. -/
def heatStartsUptoRow : OpenClaim := { program := "ytiofgjebbpnkiaa", sum := "d93a48fc7ca4cd8de40dfc7095887205c8da13f36d0934c956e6e8046caf3706", func := "commutator/commutatorlaw30.HeatStarts", spec := "heatStarts", apart := false, narrowed := true }
def HeatStartsUptoSaid : Prop := heatStartsUptoRow.holds Try.pinned (OpenSpec.upto heatStartsSpec)

/-- 'commutatorlaw30.HeatLosses', WHERE WHAT IT READS IS OF BULK AT MOST 1048576: true; the input reads as it did. -/
def heatLossesUptoRow : OpenClaim := { program := "ytiofgjebbpnkiaa", sum := "d93a48fc7ca4cd8de40dfc7095887205c8da13f36d0934c956e6e8046caf3706", func := "commutator/commutatorlaw30.HeatLosses", spec := "heatLosses", apart := false, narrowed := true }
def HeatLossesUptoSaid : Prop := heatLossesUptoRow.holds Try.pinned (OpenSpec.upto heatLossesSpec)

end Rows
end Go.Proofs.Ytiofgjebbpnkiaa
