/- Chapter 37: from tick to tick the position changes by the velocity, the velocity by the acceleration, the acceleration by the jerk. Conditions: none. -/
import Derived.Test.YtpndkmppncpkgaaPrf5
import Derived.Test.YtpndkmppncpkgaaRows
import Derived.ProofKit
namespace Go.Proofs.Ytpndkmppncpkgaa
open Go Go.Proofs.Ytpndkmppncpkgaa.AI Go.Proofs Go.Proofs.Ytpndkmppncpkgaa.Img Go.ChangeShapes Go.WideShapes Go.ChangeAt Go.RowKit
noncomputable section
set_option maxRecDepth 100000

theorem law4 (avs : List AV) (H : ArgAll E0 9 [23, 3] avs) : FnOK Try.prog TE 4 avs (.bit true) := by
  obtain ⟨l, m, hl, hm, rfl⟩ := argAll2 H
  obtain ⟨d, v, a, b, rfl, _⟩ := openP hl
  obtain ⟨k, rfl, _⟩ := openI hm
  show FnOK Try.prog TE 4 [.agg [.int .i64 d, .int .i64 v, .int .i64 a, .int .i64 b], .int .i64 k] (.bit true)
  refine fn_ofF tabsOK (specOK_cons ok11 (specOK_cons ok12 (specOK_cons ok13 (specOK_cons ok14 (specOK_cons ok15 (specOK_cons ok16 specOK_nil)))))) mixed Try.func4 (by kernel_rfl) ?_
  refine Brn.mk (fun _ => AVle.bit rfl) (fun q => ?_)
  refine Brn.mk (fun _ => AVle.bit rfl) (fun h => ?_)
  have h : pOK d v a b := pchk0.1 (ndF h)
  have fw := few_ok q h
  have c0 := pchk_ok h
  have lb := lenP_bd h
  refine Brn.mk (fun q => absurd c0 (ndT q)) (fun _ => ?_)
  refine Brn.mk (fun _ => AVle.bit (decide_eq_true c0)) (fun hn => ?_)
  have hn : ¬ (if pOK d v a b then lenP d v a b else 0) < 1 := of_decide_eq_false hn
  rw [len_ok h] at hn
  have kb : 1 ≤ clip k 1 (lenP d v a b) ∧ clip k 1 (lenP d v a b) ≤ lenP d v a b := by unfold clip; omega
  have ke : ∀ x, clip k 1 (if pOK d v a b then lenP d v a b else 0) = x → x = clip k 1 (lenP d v a b) := fun x hx => by rw [← hx, len_ok h]
  have k1 : kP d v a b (clip k 1 (if pOK d v a b then lenP d v a b else 0)) = clip k 1 (lenP d v a b) := by rw [len_ok h]; exact kP_of (by omega) kb.2
  have k2 : kP d v a b (wr (clip k 1 (if pOK d v a b then lenP d v a b else 0) - 1)) = clip k 1 (lenP d v a b) - 1 := by rw [len_ok h, wr_id (by omega) (by omega)]; exact kP_of (by omega) (by omega)
  generalize hz : clip k 1 (lenP d v a b) = z at *
  have q0 := qP_bd h z
  have q1 := qP_bd h (z - 1)
  have v0 := vP_bd h z
  have v1 := vP_bd h (z - 1)
  have v2 := vP_bd h (z - 2)
  have v3 := vP_bd h (z - 3)
  have e0 : aP d v a b z = vP d v a b z - vP d v a b (z - 1) := rfl
  have e1 : aP d v a b (z - 1) = vP d v a b (z - 1) - vP d v a b (z - 2) := by rw [aP, show z - 1 - 1 = z - 2 by omega]
  have e2 : jP d v a b z = vP d v a b z - 2 * vP d v a b (z - 1) + vP d v a b (z - 2) := rfl
  refine Brn.mk (fun _ => ?_) (fun q => absurd c0 (of_decide_eq_false q))
  refine Brn.mk (fun _ => ?_) (fun q => absurd c0 (of_decide_eq_false q))
  refine Brn.mk (fun _ => ?_) (fun q => absurd ?_ (of_decide_eq_false q))
  · refine Brn.mk (fun _ => ?_) (fun q => absurd ?_ (of_decide_eq_false q))
    · refine AVle.bit (decide_eq_true ?_)
      rw [k1, k2, ifP_ok h, ifP_ok h, ifP_ok h, wr_id (by omega) (by omega)]
      omega
    · rw [k1, k2, ifP_ok h, ifP_ok h, ifP_ok h, wr_id (by omega) (by omega)]
      omega
  · have := q_step h z
    rw [k1, k2, ifP_ok h, ifP_ok h, ifP_ok h, wr_id (by omega) (by omega)]
    omega

theorem lifted4 (os : Os) (started : os.Started) (H : Type) (enc : TypeId × Value → H) :
    ReturnsInHanded {} Try.checked os 4 .any (Rows.profileStepsSpec.pre6 enc Try.prog Try.f4 Rows.profileStepsRow.domain false) (Rows.profileStepsSpec.post enc Try.prog Try.f4 false true false false) := by
  refine returnsInHanded_of_change (C := Try.checked) own0 started (by kernel_rfl) Try.func4
    (ChangeSpec.witness6 (enc := enc) (C := Try.checked) false ⟨#[], #[.agg #[.int .i64 0, .int .i64 0, .int .i64 0, .int .i64 0], .int .i64 0], []⟩ 8 (by kernel_rfl) (by kernel_rfl) (by kernel_rfl) (by kernel_rfl)) ?_
  intro W base args ds gs before hval hW _ _
  exact law_contract tabE0 (d := 9) (tb := 4) [23, 3] (by kernel_rfl) (by kernel_rfl) (by kernel_rfl) rfl laidOut0 (by kernel_rfl) (by kernel_rfl)
    (fun H ds h => match ds, h with | [_, _], _ => rfl) law4 hval hW

theorem ProfileSteps_proved : Rows.ProfileStepsSaid :=
  OpenClaim.holds_of_wide (p := Try.pinned) (s := Rows.profileStepsSpec) (c := Rows.profileStepsRow) 4 Try.f4 rfl rfl rfl rfl rfl rfl rfl ⟨rfl, rfl, rfl, rfl, rfl⟩ rfl rfl rfl rfl rfl (by kernel_rfl) Try.func4 (by kernel_rfl)
    (of_decide_eq_true (by kernel_rfl)) (by unfold Func.isWrapper; rw [if_neg (of_decide_eq_false (by kernel_rfl))]; exact ⟨rfl, rfl⟩)
    (fun os started H enc _ => lifted4 os started H enc)
end
end Go.Proofs.Ytpndkmppncpkgaa
