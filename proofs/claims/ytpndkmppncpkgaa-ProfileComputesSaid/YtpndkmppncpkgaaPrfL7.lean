/- Chapter 37: Check, Length, Block, At and Limits return what is specified, or the specified error. Conditions: none. -/
import Derived.Test.YtpndkmppncpkgaaPrf6
import Derived.Test.YtpndkmppncpkgaaRows
import Derived.ProofKit
namespace Go.Proofs.Ytpndkmppncpkgaa
open Go Go.Proofs.Ytpndkmppncpkgaa.AI Go.Proofs Go.Proofs.Ytpndkmppncpkgaa.Img Go.ChangeShapes Go.WideShapes Go.ChangeAt Go.RowKit
noncomputable section
set_option maxRecDepth 100000

theorem law7 (avs : List AV) (H : ArgAll E0 9 [23, 3] avs) : FnOK Try.prog TE 7 avs (.bit true) := by
  obtain ⟨l, m, hl, hm, rfl⟩ := argAll2 H
  obtain ⟨d, v, a, b, rfl, _⟩ := openP hl
  obtain ⟨k, rfl, _⟩ := openI hm
  show FnOK Try.prog TE 7 [.agg [.int .i64 d, .int .i64 v, .int .i64 a, .int .i64 b], .int .i64 k] (.bit true)
  refine fn_ofF tabsOK (specOK_cons ok11 (specOK_cons ok12 (specOK_cons ok13 (specOK_cons ok14 (specOK_cons ok15 (specOK_cons ok17 (specOK_cons ok19 (specOK_cons ok20 (specOK_cons ok21 (specOK_cons ok22 (specOK_cons ok23 (specOK_cons okNum (specOK_cons ok25 specOK_nil))))))))))))) mixed Try.func7 (by kernel_rfl) ?_
  refine Brn.mk (fun _ => AVle.bit rfl) (fun q => ?_)
  refine Brn.mk (fun _ => ?_) (fun q => absurd rfl (of_decide_eq_false q))
  refine Brn.mk (fun _ => ?_) (fun q => absurd rfl (of_decide_eq_false q))
  refine Brn.mk (fun _ => ?_) (fun q => absurd rfl (of_decide_eq_false q))
  refine Brn.mk (fun _ => ?_) (fun q => absurd rfl (of_decide_eq_false q))
  refine Brn.mk (fun _ => ?_) (fun q => absurd rfl (of_decide_eq_false q))
  refine Brn.mk (fun _ => ?_) (fun q => absurd rfl (of_decide_eq_false q))
  refine Brn.mk (fun _ => ?_) (fun q => (eq4_no rfl rfl rfl rfl q).elim)
  refine Brn.mk (fun _ => ?_) (fun q => absurd rfl (of_decide_eq_false q))
  exact AVle.bit (eq4_yes rfl rfl rfl rfl)

theorem lifted7 (os : Os) (started : os.Started) (H : Type) (enc : TypeId × Value → H) :
    ReturnsInHanded {} Try.checked os 7 .any (Rows.profileComputesSpec.pre6 enc Try.prog Try.f7 Rows.profileComputesRow.domain false) (Rows.profileComputesSpec.post enc Try.prog Try.f7 false true false false) := by
  refine returnsInHanded_of_change (C := Try.checked) own0 started (by kernel_rfl) Try.func7
    (ChangeSpec.witness6 (enc := enc) (C := Try.checked) false ⟨#[], #[.agg #[.int .i64 0, .int .i64 0, .int .i64 0, .int .i64 0], .int .i64 0], []⟩ 8 (by kernel_rfl) (by kernel_rfl) (by kernel_rfl) (by kernel_rfl)) ?_
  intro W base args ds gs before hval hW _ _
  exact law_contract tabE0 (d := 9) (tb := 4) [23, 3] (by kernel_rfl) (by kernel_rfl) (by kernel_rfl) rfl laidOut0 (by kernel_rfl) (by kernel_rfl)
    (fun H ds h => match ds, h with | [_, _], _ => rfl) law7 hval hW

theorem ProfileComputes_proved : Rows.ProfileComputesSaid :=
  OpenClaim.holds_of_wide (p := Try.pinned) (s := Rows.profileComputesSpec) (c := Rows.profileComputesRow) 7 Try.f7 rfl rfl rfl rfl rfl rfl rfl ⟨rfl, rfl, rfl, rfl, rfl⟩ rfl rfl rfl rfl rfl (by kernel_rfl) Try.func7 (by kernel_rfl)
    (of_decide_eq_true (by kernel_rfl)) (by unfold Func.isWrapper; rw [if_neg (of_decide_eq_false (by kernel_rfl))]; exact ⟨rfl, rfl⟩)
    (fun os started H enc _ => lifted7 os started H enc)
end
end Go.Proofs.Ytpndkmppncpkgaa
