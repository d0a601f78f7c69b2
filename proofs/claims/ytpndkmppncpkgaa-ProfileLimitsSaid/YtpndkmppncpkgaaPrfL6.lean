/- Chapter 37: at any tick position, velocity, acceleration and jerk are within Limits, and the velocity has the direction of the motion. Conditions: none. -/
import Derived.Test.YtpndkmppncpkgaaPrf5
import Derived.Test.YtpndkmppncpkgaaRows
import Derived.ProofKit
namespace Go.Proofs.Ytpndkmppncpkgaa
open Go Go.Proofs.Ytpndkmppncpkgaa.AI Go.Proofs Go.Proofs.Ytpndkmppncpkgaa.Img Go.ChangeShapes Go.WideShapes Go.ChangeAt Go.RowKit
noncomputable section
set_option maxRecDepth 100000

theorem law6 (avs : List AV) (H : ArgAll E0 9 [23, 3] avs) : FnOK Try.prog TE 6 avs (.bit true) := by
  obtain ⟨l, m, hl, hm, rfl⟩ := argAll2 H
  obtain ⟨d, v, a, b, rfl, _⟩ := openP hl
  obtain ⟨k, rfl, _⟩ := openI hm
  show FnOK Try.prog TE 6 [.agg [.int .i64 d, .int .i64 v, .int .i64 a, .int .i64 b], .int .i64 k] (.bit true)
  refine fn_ofF tabsOK (specOK_cons ok11 (specOK_cons ok12 (specOK_cons ok13 (specOK_cons ok15 (specOK_cons ok17 (specOK_cons ok18 specOK_nil)))))) mixed Try.func6 (by kernel_rfl) ?_
  refine Brn.mk (fun _ => AVle.bit rfl) (fun q => ?_)
  refine Brn.mk (fun _ => AVle.bit rfl) (fun h => ?_)
  have h : pOK d v a b := pchk0.1 (ndF h)
  have c0 := pchk_ok h
  have Lq := lim_q h (kP d v a b k)
  have Lv := lim_v h (kP d v a b k)
  have La := lim_a h (kP d v a b k)
  have Lj := lim_j h (kP d v a b k)
  refine Brn.mk (fun q => absurd c0 (ndT q)) (fun _ => ?_)
  refine Brn.mk (fun q => absurd c0 (ndT q)) (fun _ => ?_)
  refine Chk.mk (by rw [ifP_ok h]; exact ⟨by omega, by omega⟩) ?_
  refine Brn.mk (fun q => absurd (by rw [ifP_ok h, ifP_ok h]; exact ⟨by omega, by omega⟩) (ndT q)) (fun _ => ?_)
  refine Chk.mk (by rw [ifP_ok h]; exact ⟨by omega, by omega⟩) ?_
  refine Brn.mk (fun q => absurd (by rw [ifP_ok h, ifP_ok h]; exact ⟨by omega, by omega⟩) (ndT q)) (fun _ => ?_)
  refine Chk.mk (by rw [ifP_ok h]; exact ⟨by omega, by omega⟩) ?_
  refine Brn.mk (fun q => absurd (by rw [ifP_ok h, ifP_ok h]; exact ⟨by omega, by omega⟩) (ndT q)) (fun _ => ?_)
  refine Chk.mk (by rw [ifP_ok h]; exact ⟨by omega, by omega⟩) ?_
  refine Brn.mk (fun q => absurd (by rw [ifP_ok h, ifP_ok h]; exact ⟨by omega, by omega⟩) (ndT q)) (fun _ => ?_)
  have p0 := pF_nonneg h.blk a.toNat b.toNat (kP d v a b k)
  have v0 := vF_nonneg h.blk a.toNat b.toNat (kP d v a b k)
  refine Brn.mk (fun hd => ?_) (fun hd => ?_)
  · have hd : d < 0 := of_decide_eq_true hd
    have es : sg d = -1 := if_pos hd
    refine Brn.mk (fun _ => AVle.bit (decide_eq_true ?_)) (fun q => absurd ?_ (of_decide_eq_false q))
    · rw [ifP_ok h, qP, es]; omega
    · rw [ifP_ok h, vP, velR, es]; omega
  · have hd : ¬ d < 0 := of_decide_eq_false hd
    have es : sg d = 1 := if_neg hd
    refine Brn.mk (fun _ => AVle.bit (decide_eq_true ?_)) (fun q => absurd ?_ (of_decide_eq_false q))
    · rw [ifP_ok h, qP, es]; omega
    · rw [ifP_ok h, vP, velR, es]; omega

theorem lifted6 (os : Os) (started : os.Started) (H : Type) (enc : TypeId × Value → H) :
    ReturnsInHanded {} Try.checked os 6 .any (Rows.profileLimitsSpec.pre6 enc Try.prog Try.f6 Rows.profileLimitsRow.domain false) (Rows.profileLimitsSpec.post enc Try.prog Try.f6 false true false false) := by
  refine returnsInHanded_of_change (C := Try.checked) own0 started (by kernel_rfl) Try.func6
    (ChangeSpec.witness6 (enc := enc) (C := Try.checked) false ⟨#[], #[.agg #[.int .i64 0, .int .i64 0, .int .i64 0, .int .i64 0], .int .i64 0], []⟩ 8 (by kernel_rfl) (by kernel_rfl) (by kernel_rfl) (by kernel_rfl)) ?_
  intro W base args ds gs before hval hW _ _
  exact law_contract tabE0 (d := 9) (tb := 4) [23, 3] (by kernel_rfl) (by kernel_rfl) (by kernel_rfl) rfl laidOut0 (by kernel_rfl) (by kernel_rfl)
    (fun H ds h => match ds, h with | [_, _], _ => rfl) law6 hval hW

theorem ProfileLimits_proved : Rows.ProfileLimitsSaid :=
  OpenClaim.holds_of_wide (p := Try.pinned) (s := Rows.profileLimitsSpec) (c := Rows.profileLimitsRow) 6 Try.f6 rfl rfl rfl rfl rfl rfl rfl ⟨rfl, rfl, rfl, rfl, rfl⟩ rfl rfl rfl rfl rfl (by kernel_rfl) Try.func6 (by kernel_rfl)
    (of_decide_eq_true (by kernel_rfl)) (by unfold Func.isWrapper; rw [if_neg (of_decide_eq_false (by kernel_rfl))]; exact ⟨rfl, rfl⟩)
    (fun os started H enc _ => lifted6 os started H enc)
end
end Go.Proofs.Ytpndkmppncpkgaa
