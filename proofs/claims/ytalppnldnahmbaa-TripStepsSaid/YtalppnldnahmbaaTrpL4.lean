/- Chapter 44: Step returns the state after a tick, for any state and input, or the error of the configuration. Conditions: none. -/
import Derived.Test.YtalppnldnahmbaaTrp6
import Derived.Test.YtalppnldnahmbaaRows
import Derived.ProofKit
namespace Go.Proofs.Ytalppnldnahmbaa
open Go Go.Proofs.Ytalppnldnahmbaa.AI Go.Proofs Go.Proofs.Ytalppnldnahmbaa.Img Go.ChangeShapes Go.WideShapes Go.ChangeAt Go.RowKit
noncomputable section
set_option maxRecDepth 100000

theorem eq5 (s t : TS) : ((decide (s.a = t.a) && (decide (s.b = t.b) && (decide (s.c = t.c) && (decide (s.d = t.d) && ((s.o == t.o) && true)))))) = decide (s = t) := by
  cases s; cases t
  rw [Bool.eq_iff_iff]
  simp
theorem law4 (avs : List AV) (H : ArgAll E0 9 [23, 32, 36] avs) : FnOK Try.prog TE 4 avs (.bit true) := by
  obtain ⟨l, m, n, hl, hm, hn, rfl⟩ := argAll3 H
  obtain ⟨cu, lo, hi, re, lt, ht, rfl, _⟩ := openC hl
  obtain ⟨s, rfl, _⟩ := openTS hm
  obtain ⟨x, rfl, _⟩ := openTI hn
  show FnOK Try.prog TE 4 [.agg [.int .i64 cu, .int .i64 lo, .int .i64 hi, .int .i64 re, .int .i64 lt, .int .i64 ht], .agg [.int .i64 s.a, .int .i64 s.b, .int .i64 s.c, .int .i64 s.d, .bit s.o], .agg [.int .i64 x.x0, .int .i64 x.x1, .int .i64 x.x2, .int .i64 x.l, .bit x.d0, .bit x.d1, .bit x.d2, .bit x.d3, .bit x.d4, .bit x.d5]] (.bit true)
  refine fn_ofF tabsOK (specOK_cons ok12 (specOK_cons ok16 (specOK_cons ok15 (specOK_cons ok17 (specOK_cons okNum specOK_nil))))) mixed Try.func4 (by kernel_rfl) ?_
  refine Brn.mk (fun h => ?_) (fun h => ?_)
  · have h : ¬ tchk cu lo hi re lt ht = 0 := ndT h
    have e : okT (tchk cu lo hi re lt ht) (tstep cu lo hi re lt ht ⟨s.a, s.b, s.c, s.d, s.o⟩ x.x0 x.x1 x.x2 x.l (any6 x.d0 x.d1 x.d2 x.d3 x.d4 x.d5)) = .zero := by rw [okT, if_neg h]
    refine Brn.mk (fun _ => ?_) (fun q => ?_)
    · exact AVle.bit (decide_eq_true rfl)
    · have q : (decide ((okT (tchk cu lo hi re lt ht) (tstep cu lo hi re lt ht ⟨s.a, s.b, s.c, s.d, s.o⟩ x.x0 x.x1 x.x2 x.l (any6 x.d0 x.d1 x.d2 x.d3 x.d4 x.d5))).a = TS.zero.a) && (decide ((okT (tchk cu lo hi re lt ht) (tstep cu lo hi re lt ht ⟨s.a, s.b, s.c, s.d, s.o⟩ x.x0 x.x1 x.x2 x.l (any6 x.d0 x.d1 x.d2 x.d3 x.d4 x.d5))).b = TS.zero.b) && (decide ((okT (tchk cu lo hi re lt ht) (tstep cu lo hi re lt ht ⟨s.a, s.b, s.c, s.d, s.o⟩ x.x0 x.x1 x.x2 x.l (any6 x.d0 x.d1 x.d2 x.d3 x.d4 x.d5))).c = TS.zero.c) && (decide ((okT (tchk cu lo hi re lt ht) (tstep cu lo hi re lt ht ⟨s.a, s.b, s.c, s.d, s.o⟩ x.x0 x.x1 x.x2 x.l (any6 x.d0 x.d1 x.d2 x.d3 x.d4 x.d5))).d = TS.zero.d) && (((okT (tchk cu lo hi re lt ht) (tstep cu lo hi re lt ht ⟨s.a, s.b, s.c, s.d, s.o⟩ x.x0 x.x1 x.x2 x.l (any6 x.d0 x.d1 x.d2 x.d3 x.d4 x.d5))).o == TS.zero.o) && true))))) = false := q
      rw [eq5, e] at q
      exact absurd rfl (of_decide_eq_false q)
  · have h : tchk cu lo hi re lt ht = 0 := ndF h
    obtain ⟨_, _, _, ⟨k1, _⟩, k2, _⟩ := tchk_zero h
    refine Brn.mk (fun _ => ?_) (fun q => absurd h (of_decide_eq_false q))
    refine Chk.mk ⟨by omega, by omega⟩ ?_
    refine AVle.bit ?_
    have e : okT (tchk cu lo hi re lt ht) (tstep cu lo hi re lt ht ⟨s.a, s.b, s.c, s.d, s.o⟩ x.x0 x.x1 x.x2 x.l (any6 x.d0 x.d1 x.d2 x.d3 x.d4 x.d5)) = tstep cu lo hi re lt ht ⟨s.a, s.b, s.c, s.d, s.o⟩ x.x0 x.x1 x.x2 x.l (any6 x.d0 x.d1 x.d2 x.d3 x.d4 x.d5) := by rw [okT, if_pos h]
    refine (eq5 (okT (tchk cu lo hi re lt ht) (tstep cu lo hi re lt ht ⟨s.a, s.b, s.c, s.d, s.o⟩ x.x0 x.x1 x.x2 x.l (any6 x.d0 x.d1 x.d2 x.d3 x.d4 x.d5))) (tstep cu lo hi re lt ht ⟨s.a, s.b, s.c, s.d, s.o⟩ x.x0 x.x1 x.x2 x.l (any6 x.d0 x.d1 x.d2 x.d3 x.d4 x.d5))).trans ?_
    exact decide_eq_true e

theorem lifted4 (os : Os) (started : os.Started) (H : Type) (enc : TypeId × Value → H) :
    ReturnsInHanded {} Try.checked os 4 .any (Rows.tripStepsSpec.pre6 enc Try.prog Try.f4 Rows.tripStepsRow.domain false) (Rows.tripStepsSpec.post enc Try.prog Try.f4 false true false false) := by
  refine returnsInHanded_of_change (C := Try.checked) own0 started (by kernel_rfl) Try.func4
    (ChangeSpec.witness6 (enc := enc) (C := Try.checked) false ⟨#[], #[.agg #[.int .i64 0, .int .i64 0, .int .i64 0, .int .i64 0, .int .i64 0, .int .i64 0], .agg #[.int .i64 0, .int .i64 0, .int .i64 0, .int .i64 0, .bool false], .agg #[.int .i64 0, .int .i64 0, .int .i64 0, .int .i64 0, .bool false, .bool false, .bool false, .bool false, .bool false, .bool false]], []⟩ 8 (by kernel_rfl) (by kernel_rfl) (by kernel_rfl) (by kernel_rfl)) ?_
  intro W base args ds gs before hval hW _ _
  exact law_contract tabE0 (d := 9) (tb := 4) [23, 32, 36] (by kernel_rfl) (by kernel_rfl) (by kernel_rfl) rfl laidOut0 (by kernel_rfl) (by kernel_rfl)
    (fun H ds h => match ds, h with | [_, _, _], _ => rfl) law4 hval hW

theorem TripSteps_proved : Rows.TripStepsSaid :=
  OpenClaim.holds_of_wide (p := Try.pinned) (s := Rows.tripStepsSpec) (c := Rows.tripStepsRow) 4 Try.f4 rfl rfl rfl rfl rfl rfl rfl ⟨rfl, rfl, rfl, rfl, rfl⟩ rfl rfl rfl rfl rfl (by kernel_rfl) Try.func4 (by kernel_rfl)
    (of_decide_eq_true (by kernel_rfl)) (by unfold Func.isWrapper; rw [if_neg (of_decide_eq_false (by kernel_rfl))]; exact ⟨rfl, rfl⟩)
    (fun os started H enc _ => lifted4 os started H enc)
end
end Go.Proofs.Ytalppnldnahmbaa
