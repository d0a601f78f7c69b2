/- Chapter 30: Check accepts exactly the configurations of the specified form, and returns the first error. Conditions: none. -/
import Derived.Test.YtiofgjebbpnkiaaHet6
import Derived.Test.YtiofgjebbpnkiaaRows
import Derived.ProofKit
namespace Go.Proofs.Ytiofgjebbpnkiaa
open Go Go.Proofs.Ytiofgjebbpnkiaa.AI Go.Proofs Go.Proofs.Ytiofgjebbpnkiaa.Img Go.ChangeShapes Go.WideShapes Go.ChangeAt Go.RowKit
noncomputable section
set_option maxRecDepth 100000

theorem law3 (avs : List AV) (H : ArgAll E0 9 [25] avs) : FnOK Try.prog TE 3 avs (.bit true) := by
  obtain ⟨l, hl, rfl⟩ := argAll1 H
  obtain ⟨n, na, nl, gf, af, lf, rfl, h1, h2, h3⟩ := openC hl
  show FnOK Try.prog TE 3 [.agg [.sl 1 n gf, .sl 1 na af, .sl 1 nl lf]] (.bit true)
  refine fn_ofF tabsOK (specOK_cons okAwake (specOK_cons okLarge (specOK_cons okHChk (specOK_cons okNum (specOK_cons okHChkR specOK_nil))))) mixed Try.func3 (by kernel_rfl) ?_
  refine Brn.mk (fun _ => AVle.bit rfl) (fun _ => ?_)
  refine Chk.mk ⟨⟨rfl, h1⟩, ⟨rfl, h2⟩, h3⟩ (Chk.mk ⟨⟨rfl, h1⟩, ⟨rfl, h2⟩, h3⟩ ?_)
  exact AVle.bit (decide_eq_true rfl)

theorem lifted3 (os : Os) (started : os.Started) (H : Type) (enc : TypeId × Value → H) :
    ReturnsInHanded {} Try.checked os 3 .any (Rows.heatChecksSpec.pre6 enc Try.prog Try.f3 Rows.heatChecksRow.domain false) (Rows.heatChecksSpec.post enc Try.prog Try.f3 false true false false) := by
  refine returnsInHanded_of_change (C := Try.checked) own0 started (by kernel_rfl) Try.func3
    (ChangeSpec.witness6 (enc := enc) (C := Try.checked) false ⟨#[], #[.agg #[.slice none 0 0, .slice none 0 0, .slice none 0 0]], []⟩ 8 (by kernel_rfl) (by kernel_rfl) (by kernel_rfl) (by kernel_rfl)) ?_
  intro W base args ds gs before hval hW _ _
  exact law_contract tabE0 (d := 9) (tb := 4) [25] (by kernel_rfl) (by kernel_rfl) (by kernel_rfl) rfl laidOut0 (by kernel_rfl) (by kernel_rfl)
    (fun H ds h => match ds, h with | [_], _ => rfl) law3 hval hW

theorem HeatChecks_proved : Rows.HeatChecksSaid :=
  OpenClaim.holds_of_wide (p := Try.pinned) (s := Rows.heatChecksSpec) (c := Rows.heatChecksRow) 3 Try.f3 rfl rfl rfl rfl rfl rfl rfl ⟨rfl, rfl, rfl, rfl, rfl⟩ rfl rfl rfl rfl rfl (by kernel_rfl) Try.func3 (by kernel_rfl)
    (of_decide_eq_true (by kernel_rfl)) (by unfold Func.isWrapper; rw [if_neg (of_decide_eq_false (by kernel_rfl))]; exact ⟨rfl, rfl⟩)
    (fun os started H enc _ => lifted3 os started H enc)
end
end Go.Proofs.Ytiofgjebbpnkiaa
