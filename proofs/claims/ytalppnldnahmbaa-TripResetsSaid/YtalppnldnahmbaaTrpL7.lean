/- Chapter 44: Reset returns the zero state, or the errors as specified. Conditions: none. -/
import Derived.Test.YtalppnldnahmbaaTrp5
import Derived.Test.YtalppnldnahmbaaRows
import Derived.ProofKit
namespace Go.Proofs.Ytalppnldnahmbaa
open Go Go.Proofs.Ytalppnldnahmbaa.AI Go.Proofs Go.Proofs.Ytalppnldnahmbaa.Img Go.ChangeShapes Go.WideShapes Go.ChangeAt Go.RowKit
noncomputable section
set_option maxRecDepth 100000

theorem law7 (avs : List AV) (H : ArgAll E0 9 [23, 32, 36] avs) : FnOK Try.prog TE 7 avs (.bit true) := by
  obtain ⟨l, m, n, hl, hm, hn, rfl⟩ := argAll3 H
  obtain ⟨cu, lo, hi, re, lt, ht, rfl, _⟩ := openC hl
  obtain ⟨s, rfl, _⟩ := openTS hm
  obtain ⟨x, rfl, _⟩ := openTI hn
  show FnOK Try.prog TE 7 [.agg [.int .i64 cu, .int .i64 lo, .int .i64 hi, .int .i64 re, .int .i64 lt, .int .i64 ht], .agg [.int .i64 s.a, .int .i64 s.b, .int .i64 s.c, .int .i64 s.d, .bit s.o], .agg [.int .i64 x.x0, .int .i64 x.x1, .int .i64 x.x2, .int .i64 x.l, .bit x.d0, .bit x.d1, .bit x.d2, .bit x.d3, .bit x.d4, .bit x.d5]] (.bit true)
  refine fn_ofF tabsOK (specOK_cons ok12 (specOK_cons ok20 (specOK_cons ok15 (specOK_cons ok21 (specOK_cons okNum specOK_nil))))) mixed Try.func7 (by kernel_rfl) ?_
  refine Brn.mk (fun h => ?_) (fun h => ?_)
  · have h : tchk cu lo hi re lt ht = 0 := of_decide_eq_true h
    refine Brn.mk (fun _ => ?_) (fun q => absurd q (by decide))
    refine AVle.bit (decide_eq_true ?_)
    rw [rstP, if_pos h]
  · have h : ¬ tchk cu lo hi re lt ht = 0 := of_decide_eq_false h
    refine Brn.mk (fun _ => ?_) (fun q => absurd q (by decide))
    refine AVle.bit (decide_eq_true ?_)
    rw [rstP, if_neg h]

theorem lifted7 (os : Os) (started : os.Started) (H : Type) (enc : TypeId × Value → H) :
    ReturnsInHanded {} Try.checked os 7 .any (Rows.tripResetsSpec.pre6 enc Try.prog Try.f7 Rows.tripResetsRow.domain false) (Rows.tripResetsSpec.post enc Try.prog Try.f7 false true false false) := by
  refine returnsInHanded_of_change (C := Try.checked) own0 started (by kernel_rfl) Try.func7
    (ChangeSpec.witness6 (enc := enc) (C := Try.checked) false ⟨#[], #[.agg #[.int .i64 0, .int .i64 0, .int .i64 0, .int .i64 0, .int .i64 0, .int .i64 0], .agg #[.int .i64 0, .int .i64 0, .int .i64 0, .int .i64 0, .bool false], .agg #[.int .i64 0, .int .i64 0, .int .i64 0, .int .i64 0, .bool false, .bool false, .bool false, .bool false, .bool false, .bool false]], []⟩ 8 (by kernel_rfl) (by kernel_rfl) (by kernel_rfl) (by kernel_rfl)) ?_
  intro W base args ds gs before hval hW _ _
  exact law_contract tabE0 (d := 9) (tb := 4) [23, 32, 36] (by kernel_rfl) (by kernel_rfl) (by kernel_rfl) rfl laidOut0 (by kernel_rfl) (by kernel_rfl)
    (fun H ds h => match ds, h with | [_, _, _], _ => rfl) law7 hval hW

theorem TripResets_proved : Rows.TripResetsSaid :=
  OpenClaim.holds_of_wide (p := Try.pinned) (s := Rows.tripResetsSpec) (c := Rows.tripResetsRow) 7 Try.f7 rfl rfl rfl rfl rfl rfl rfl ⟨rfl, rfl, rfl, rfl, rfl⟩ rfl rfl rfl rfl rfl (by kernel_rfl) Try.func7 (by kernel_rfl)
    (of_decide_eq_true (by kernel_rfl)) (by unfold Func.isWrapper; rw [if_neg (of_decide_eq_false (by kernel_rfl))]; exact ⟨rfl, rfl⟩)
    (fun os started H enc _ => lifted7 os started H enc)
end
end Go.Proofs.Ytalppnldnahmbaa
