/- Chapter 44: Peak and VoltPeak return what is specified, or the errors as specified. Conditions: none. -/
import Derived.Test.YtalppnldnahmbaaTrp3
import Derived.Test.YtalppnldnahmbaaRows
import Derived.ProofKit
namespace Go.Proofs.Ytalppnldnahmbaa
open Go Go.Proofs.Ytalppnldnahmbaa.AI Go.Proofs Go.Proofs.Ytalppnldnahmbaa.Img Go.ChangeShapes Go.WideShapes Go.ChangeAt Go.RowKit
noncomputable section
set_option maxRecDepth 100000

theorem law11 (avs : List AV) (H : ArgAll E0 9 [23, 3, 3] avs) : FnOK Try.prog TE 11 avs (.bit true) := by
  obtain ⟨l, m, n, hl, hm, hn, rfl⟩ := argAll3 H
  obtain ⟨cu, lo, hi, re, lt, ht, rfl, _⟩ := openC hl
  obtain ⟨to, rfl, _⟩ := openI hm
  obtain ⟨ri, rfl, _⟩ := openI hn
  show FnOK Try.prog TE 11 [.agg [.int .i64 cu, .int .i64 lo, .int .i64 hi, .int .i64 re, .int .i64 lt, .int .i64 ht], .int .i64 to, .int .i64 ri] (.bit true)
  refine fn_ofF tabsOK (specOK_cons ok12 (specOK_cons okNum (specOK_cons ok22 (specOK_cons ok23 (specOK_cons ok15 (specOK_cons ok24 (specOK_cons ok25 (specOK_cons ok26 specOK_nil)))))))) mixed Try.func11 (by kernel_rfl) ?_
  have bad : ∀ x, ¬ peakE (tchk cu lo hi re lt ht) to ri = 0 → decide (okI (peakE (tchk cu lo hi re lt ht) to ri) x = 0) = true := fun x h => by rw [okI, if_neg h]; rfl
  refine Brn.mk (fun h1 => ?_) (fun h1 => ?_)
  · have h1 : tchk cu lo hi re lt ht = 0 := of_decide_eq_true h1
    have e : peakE (tchk cu lo hi re lt ht) to ri = riseE to ri := by rw [peakE, if_pos h1]
    refine Brn.mk (fun h2 => ?_) (fun h2 => ?_)
    · have h2 : ¬ riseE to ri = 0 := ndT h2
      have hn : ¬ peakE (tchk cu lo hi re lt ht) to ri = 0 := by rw [e]; exact h2
      refine Brn.mk (fun _ => ?_) (fun q => absurd ((bad _ hn).symm.trans q) (by decide))
      refine Brn.mk (fun _ => ?_) (fun q => absurd ((bad _ hn).symm.trans q) (by decide))
      refine Brn.mk (fun _ => ?_) (fun q => absurd e (of_decide_eq_false q))
      exact AVle.bit (decide_eq_true e)
    · have h2 : riseE to ri = 0 := ndF h2
      have e0 := e.trans h2
      refine Brn.mk (fun _ => ?_) (fun q => absurd e0 (of_decide_eq_false q))
      refine Brn.mk (fun _ => ?_) (fun q => absurd e0 (of_decide_eq_false q))
      refine Brn.mk (fun _ => ?_) (fun q => absurd (show okI (peakE (tchk cu lo hi re lt ht) to ri) (peakI cu re to ri) = peakI cu re to ri by rw [e0, okI, if_pos rfl]) (of_decide_eq_false q))
      exact AVle.bit (decide_eq_true (show okI (peakE (tchk cu lo hi re lt ht) to ri) (voltI hi re ht to ri) = voltI hi re ht to ri by rw [e0, okI, if_pos rfl]))
  · have h1 : ¬ tchk cu lo hi re lt ht = 0 := of_decide_eq_false h1
    have e : peakE (tchk cu lo hi re lt ht) to ri = tchk cu lo hi re lt ht := by rw [peakE, if_neg h1]
    have hn : ¬ peakE (tchk cu lo hi re lt ht) to ri = 0 := by rw [e]; exact h1
    refine Brn.mk (fun _ => ?_) (fun q => absurd (ndF q) h1)
    refine Brn.mk (fun _ => ?_) (fun q => absurd ((bad _ hn).symm.trans q) (by decide))
    refine Brn.mk (fun _ => ?_) (fun q => absurd ((bad _ hn).symm.trans q) (by decide))
    refine Brn.mk (fun _ => ?_) (fun q => absurd e (of_decide_eq_false q))
    exact AVle.bit (decide_eq_true e)

theorem lifted11 (os : Os) (started : os.Started) (H : Type) (enc : TypeId × Value → H) :
    ReturnsInHanded {} Try.checked os 11 .any (Rows.tripPeaksSpec.pre6 enc Try.prog Try.f11 Rows.tripPeaksRow.domain false) (Rows.tripPeaksSpec.post enc Try.prog Try.f11 false true false false) := by
  refine returnsInHanded_of_change (C := Try.checked) own0 started (by kernel_rfl) Try.func11
    (ChangeSpec.witness6 (enc := enc) (C := Try.checked) false ⟨#[], #[.agg #[.int .i64 0, .int .i64 0, .int .i64 0, .int .i64 0, .int .i64 0, .int .i64 0], .int .i64 0, .int .i64 0], []⟩ 8 (by kernel_rfl) (by kernel_rfl) (by kernel_rfl) (by kernel_rfl)) ?_
  intro W base args ds gs before hval hW _ _
  exact law_contract tabE0 (d := 9) (tb := 4) [23, 3, 3] (by kernel_rfl) (by kernel_rfl) (by kernel_rfl) rfl laidOut0 (by kernel_rfl) (by kernel_rfl)
    (fun H ds h => match ds, h with | [_, _, _], _ => rfl) law11 hval hW

theorem TripPeaks_proved : Rows.TripPeaksSaid :=
  OpenClaim.holds_of_wide (p := Try.pinned) (s := Rows.tripPeaksSpec) (c := Rows.tripPeaksRow) 11 Try.f11 rfl rfl rfl rfl rfl rfl rfl ⟨rfl, rfl, rfl, rfl, rfl⟩ rfl rfl rfl rfl rfl (by kernel_rfl) Try.func11 (by kernel_rfl)
    (of_decide_eq_true (by kernel_rfl)) (by unfold Func.isWrapper; rw [if_neg (of_decide_eq_false (by kernel_rfl))]; exact ⟨rfl, rfl⟩)
    (fun os started H enc _ => lifted11 os started H enc)
end
end Go.Proofs.Ytalppnldnahmbaa
