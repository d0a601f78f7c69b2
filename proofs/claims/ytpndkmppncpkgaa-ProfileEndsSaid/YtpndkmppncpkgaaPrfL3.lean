/- Chapter 37: after Length ticks the scaled position is Dist*M1*M2 and the velocity 0, one tick earlier the velocity is not 0; before the first tick all is 0. Conditions: none. -/
import Derived.Test.YtpndkmppncpkgaaPrf5
import Derived.Test.YtpndkmppncpkgaaRows
import Derived.ProofKit
namespace Go.Proofs.Ytpndkmppncpkgaa
open Go Go.Proofs.Ytpndkmppncpkgaa.AI Go.Proofs Go.Proofs.Ytpndkmppncpkgaa.Img Go.ChangeShapes Go.WideShapes Go.ChangeAt Go.RowKit
noncomputable section
set_option maxRecDepth 100000

theorem law3 (avs : List AV) (H : ArgAll E0 9 [23] avs) : FnOK Try.prog TE 3 avs (.bit true) := by
  obtain ⟨l, hl, rfl⟩ := argAll1 H
  obtain ⟨d, v, a, b, rfl, _⟩ := openP hl
  show FnOK Try.prog TE 3 [.agg [.int .i64 d, .int .i64 v, .int .i64 a, .int .i64 b]] (.bit true)
  refine fn_ofF tabsOK (specOK_cons ok11 (specOK_cons ok12 (specOK_cons ok13 (specOK_cons ok14 (specOK_cons ok15 specOK_nil))))) mixed Try.func3 (by kernel_rfl) ?_
  refine Brn.mk (fun _ => AVle.bit rfl) (fun q => ?_)
  refine Brn.mk (fun _ => AVle.bit rfl) (fun h => ?_)
  have h : pOK d v a b := pchk0.1 (ndF h)
  have fw := few_ok q h
  have c0 := pchk_ok h
  have lb := lenP_bd h
  refine Brn.mk (fun q => absurd c0 (ndT q)) (fun _ => ?_)
  refine Brn.mk (fun q => absurd c0 (ndT q)) (fun _ => ?_)
  refine Brn.mk (fun q => absurd c0 (ndT q)) (fun _ => ?_)
  refine Brn.mk (fun q => absurd c0 (ndT q)) (fun _ => ?_)
  refine Brn.mk (fun q => absurd c0 (ndT q)) (fun _ => ?_)
  have k1 : kP d v a b (if pOK d v a b then lenP d v a b else 0) = lenP d v a b := by rw [len_ok h]; exact kP_hi h (Int.le_refl _)
  have k2 : kP d v a b (wr ((if pOK d v a b then lenP d v a b else 0) + 1000)) = lenP d v a b := by rw [len_ok h, wr_id (by omega) (by omega)]; exact kP_hi h (by omega)
  have k0 : kP d v a b 0 = 0 := kP_lo h (Int.le_refl _)
  refine Brn.mk (fun q => absurd (show ifP d v a b (qP d v a b (kP d v a b (if pOK d v a b then lenP d v a b else 0))) = wr (wr (d * a) * b) by rw [k1, ifP_ok h, dab h, end_q h]) (ndT q)) (fun _ => ?_)
  refine Brn.mk (fun q => (eq4_ok (by rw [k1, k2]) (by rw [k1, k2]) (by rw [k1, k2]) (by rw [k1, k2]) q).elim) (fun _ => ?_)
  refine Brn.mk (fun q => (eq4_ok (by rw [k0, ifP_ok h, qP_zero (by omega)]) (by rw [k0, ifP_ok h, vP_zero (by omega)]) (by rw [k0, ifP_ok h, aP, vP_zero (by omega), vP_zero (by omega)]; rfl) (by rw [k0, ifP_ok h, jP, vP_zero (by omega), vP_zero (by omega), vP_zero (by omega)]; rfl) q).elim) (fun _ => ?_)
  have ev : ifP d v a b (vP d v a b (kP d v a b (if pOK d v a b then lenP d v a b else 0))) = 0 := by rw [k1, ifP_ok h, end_v h]
  have fin : d ≠ 0 → ¬ ifP d v a b (vP d v a b (kP d v a b (wr ((if pOK d v a b then lenP d v a b else 0) - 1)))) = 0 := fun hd => by
    have := (len_pos h hd)
    have hab := h.2
    rw [len_ok h, wr1 h, ifP_ok h, kP_of (by omega) (by omega)]
    exact bef_v h hd
  refine Brn.mk (fun hd => ?_) (fun hd => ?_)
  · have hd : d = 0 := of_decide_eq_true hd
    subst hd
    refine Brn.mk (fun _ => AVle.bit rfl) (fun q => absurd (show (if pOK 0 v a b then lenP 0 v a b else 0) = 0 by rw [len_ok h, len_zero h]) (of_decide_eq_false q))
  · have hd : ¬ d = 0 := of_decide_eq_false hd
    refine Brn.mk (fun _ => ?_) (fun q => absurd ev (of_decide_eq_false q))
    refine AVle.bit ?_
    show (!decide (ifP d v a b (vP d v a b (kP d v a b (wr ((if pOK d v a b then lenP d v a b else 0) - 1)))) = 0)) = true
    rw [decide_eq_false (fin hd)]; rfl

theorem lifted3 (os : Os) (started : os.Started) (H : Type) (enc : TypeId × Value → H) :
    ReturnsInHanded {} Try.checked os 3 .any (Rows.profileEndsSpec.pre6 enc Try.prog Try.f3 Rows.profileEndsRow.domain false) (Rows.profileEndsSpec.post enc Try.prog Try.f3 false true false false) := by
  refine returnsInHanded_of_change (C := Try.checked) own0 started (by kernel_rfl) Try.func3
    (ChangeSpec.witness6 (enc := enc) (C := Try.checked) false ⟨#[], #[.agg #[.int .i64 0, .int .i64 0, .int .i64 0, .int .i64 0]], []⟩ 8 (by kernel_rfl) (by kernel_rfl) (by kernel_rfl) (by kernel_rfl)) ?_
  intro W base args ds gs before hval hW _ _
  exact law_contract tabE0 (d := 9) (tb := 4) [23] (by kernel_rfl) (by kernel_rfl) (by kernel_rfl) rfl laidOut0 (by kernel_rfl) (by kernel_rfl)
    (fun H ds h => match ds, h with | [_], _ => rfl) law3 hval hW

theorem ProfileEnds_proved : Rows.ProfileEndsSaid :=
  OpenClaim.holds_of_wide (p := Try.pinned) (s := Rows.profileEndsSpec) (c := Rows.profileEndsRow) 3 Try.f3 rfl rfl rfl rfl rfl rfl rfl ⟨rfl, rfl, rfl, rfl, rfl⟩ rfl rfl rfl rfl rfl (by kernel_rfl) Try.func3 (by kernel_rfl)
    (of_decide_eq_true (by kernel_rfl)) (by unfold Func.isWrapper; rw [if_neg (of_decide_eq_false (by kernel_rfl))]; exact ⟨rfl, rfl⟩)
    (fun os started H enc _ => lifted3 os started H enc)
end
end Go.Proofs.Ytpndkmppncpkgaa
