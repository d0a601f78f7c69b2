/- Chapter 37: the order of the boxes does not matter; the opposite motion. Conditions: none. -/
import Derived.Test.YtpndkmppncpkgaaPrf5
import Derived.Test.YtpndkmppncpkgaaRows
import Derived.ProofKit
namespace Go.Proofs.Ytpndkmppncpkgaa
open Go Go.Proofs.Ytpndkmppncpkgaa.AI Go.Proofs Go.Proofs.Ytpndkmppncpkgaa.Img Go.ChangeShapes Go.WideShapes Go.ChangeAt Go.RowKit
noncomputable section
set_option maxRecDepth 100000

theorem law5 (avs : List AV) (H : ArgAll E0 9 [23, 3] avs) : FnOK Try.prog TE 5 avs (.bit true) := by
  obtain ⟨l, m, hl, hm, rfl⟩ := argAll2 H
  obtain ⟨d, v, a, b, rfl, _⟩ := openP hl
  obtain ⟨k, rfl, _⟩ := openI hm
  show FnOK Try.prog TE 5 [.agg [.int .i64 d, .int .i64 v, .int .i64 a, .int .i64 b], .int .i64 k] (.bit true)
  refine fn_ofF tabsOK (specOK_cons ok11 (specOK_cons ok12 (specOK_cons ok13 (specOK_cons ok15 specOK_nil)))) mixed Try.func5 (by kernel_rfl) ?_
  refine Brn.mk (fun _ => AVle.bit rfl) (fun q => ?_)
  refine Brn.mk (fun _ => AVle.bit rfl) (fun h => ?_)
  have h : pOK d v a b := pchk0.1 (ndF h)
  have c0 := pchk_ok h
  have h2 : pOK d v b a := ⟨h.1, h.2.2.1, h.2.1, h.2.2.2⟩
  have h3 : pOK (-d) v a b := ⟨h.1, h.2.1, h.2.2.1, by have := h.2.2.2; omega⟩
  have ed : wr (0 - d) = -d := by have := h.2.2.2; rw [wr_id (by omega) (by omega)]; omega
  refine Brn.mk (fun _ => ?_) (fun q => absurd c0 (of_decide_eq_false q))
  refine Brn.mk (fun _ => ?_) (fun q => absurd (pchk_ok h2) (of_decide_eq_false q))
  refine Brn.mk (fun _ => ?_) (fun q => absurd (by rw [ed]; exact pchk_ok h3) (of_decide_eq_false q))
  have s1 := sw_k d v a b k
  have bq := qP_bd h (kP d v a b k)
  have b0 := vP_bd h (kP d v a b k)
  have b1 := vP_bd h (kP d v a b k - 1)
  have b2 := vP_bd h (kP d v a b k - 2)
  refine Brn.mk (fun _ => ?_) (fun q => (eq4_no ?_ ?_ ?_ ?_ q).elim)
  · refine AVle.bit (eq4_yes ?_ ?_ ?_ ?_)
    · rw [ed, ifP_ok h, ifP_ok h3, ng_k, ng_q h, wr_id (by omega) (by omega)]; omega
    · rw [ed, ifP_ok h, ifP_ok h3, ng_k, ng_v h, wr_id (by omega) (by omega)]; omega
    · rw [ed, ifP_ok h, ifP_ok h3, ng_k, aP, aP, ng_v h, ng_v h, wr_id (by omega) (by omega)]; omega
    · rw [ed, ifP_ok h, ifP_ok h3, ng_k, jP, jP, ng_v h, ng_v h, ng_v h, wr_id (by omega) (by omega)]; omega
  · rw [ifP_ok h, ifP_ok h2, s1, sw_q]
  · rw [ifP_ok h, ifP_ok h2, s1, sw_v]
  · rw [ifP_ok h, ifP_ok h2, s1, aP, aP, sw_v d v a b, sw_v d v a b]
  · rw [ifP_ok h, ifP_ok h2, s1, jP, jP, sw_v d v a b, sw_v d v a b, sw_v d v a b]

theorem lifted5 (os : Os) (started : os.Started) (H : Type) (enc : TypeId × Value → H) :
    ReturnsInHanded {} Try.checked os 5 .any (Rows.profileSwapsSpec.pre6 enc Try.prog Try.f5 Rows.profileSwapsRow.domain false) (Rows.profileSwapsSpec.post enc Try.prog Try.f5 false true false false) := by
  refine returnsInHanded_of_change (C := Try.checked) own0 started (by kernel_rfl) Try.func5
    (ChangeSpec.witness6 (enc := enc) (C := Try.checked) false ⟨#[], #[.agg #[.int .i64 0, .int .i64 0, .int .i64 0, .int .i64 0], .int .i64 0], []⟩ 8 (by kernel_rfl) (by kernel_rfl) (by kernel_rfl) (by kernel_rfl)) ?_
  intro W base args ds gs before hval hW _ _
  exact law_contract tabE0 (d := 9) (tb := 4) [23, 3] (by kernel_rfl) (by kernel_rfl) (by kernel_rfl) rfl laidOut0 (by kernel_rfl) (by kernel_rfl)
    (fun H ds h => match ds, h with | [_, _], _ => rfl) law5 hval hW

theorem ProfileSwaps_proved : Rows.ProfileSwapsSaid :=
  OpenClaim.holds_of_wide (p := Try.pinned) (s := Rows.profileSwapsSpec) (c := Rows.profileSwapsRow) 5 Try.f5 rfl rfl rfl rfl rfl rfl rfl ⟨rfl, rfl, rfl, rfl, rfl⟩ rfl rfl rfl rfl rfl (by kernel_rfl) Try.func5 (by kernel_rfl)
    (of_decide_eq_true (by kernel_rfl)) (by unfold Func.isWrapper; rw [if_neg (of_decide_eq_false (by kernel_rfl))]; exact ⟨rfl, rfl⟩)
    (fun os started H enc _ => lifted5 os started H enc)
end
end Go.Proofs.Ytpndkmppncpkgaa
