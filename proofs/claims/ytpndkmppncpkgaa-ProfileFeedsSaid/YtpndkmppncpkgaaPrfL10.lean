/- Chapter 37: feeding the block to a filter gives the points of the motion, tick by tick; at the end of the motion, and not earlier, the filter is at rest with one more zero. Conditions: none. -/
import Derived.Test.YtpndkmppncpkgaaPrf12
import Derived.Test.YtpndkmppncpkgaaRows
import Derived.ProofKit
namespace Go.Proofs.Ytpndkmppncpkgaa
open Go Go.Proofs.Ytpndkmppncpkgaa.AI Go.Proofs Go.Proofs.Ytpndkmppncpkgaa.Img Go.ChangeShapes Go.WideShapes Go.ChangeAt Go.RowKit
noncomputable section
set_option maxRecDepth 100000

set_option maxHeartbeats 1000000 in
theorem law10 (avs : List AV) (H : ArgAll E0 9 [23] avs) : FnOK Try.prog TE 10 avs (.bit true) := by
  obtain ⟨l, hl, rfl⟩ := argAll1 H
  obtain ⟨d, v, a, b, rfl, _⟩ := openP hl
  show FnOK Try.prog TE 10 [.agg [.int .i64 d, .int .i64 v, .int .i64 a, .int .i64 b]] (.bit true)
  refine fn_ofF tabsOK (specOK_cons ok12 (specOK_cons ok13 (specOK_cons ok14 (specOK_cons ok15 (specOK_cons ok19 (specOK_cons ok26 (specOK_cons ok28 (specOK_cons ok31 (specOK_cons ok33 specOK_nil))))))))) mixed Try.func10 (by kernel_rfl) ?_
  refine Brn.mk (fun _ => AVle.bit rfl) (fun h => ?_)
  have h : pOK d v a b := pchk0.1 (ndF h)
  have c0 := pchk_ok h
  refine Brn.mk (fun _ => AVle.bit rfl) (fun ha => ?_)
  refine Brn.mk (fun _ => AVle.bit rfl) (fun hb => ?_)
  refine Chk.mk (by have := h.1; omega) ?_
  refine Brn.mk (fun _ => AVle.bit rfl) (fun _ => ?_)
  have lb := lenP_bd h
  obtain ⟨A, rfl⟩ : ∃ n : Nat, a = n := ⟨a.toNat, by have := h.2; omega⟩
  obtain ⟨B, rfl⟩ : ∃ n : Nat, b = n := ⟨b.toNat, by have := h.2; omega⟩
  have hA : 1 ≤ A ∧ A ≤ 256 := by have := h.2; omega
  have hB : 1 ≤ B ∧ B ≤ 256 := by have := h.2; omega
  have bc : bchk A B = 0 := bchk0.2 ⟨h.2.1, h.2.2.1⟩
  have zA : zN (bchk A B) (A : Int).toNat = A := by rw [zN0 bc, Int.toNat_natCast]
  have zB : zN (bchk A B) (B : Int).toNat = B := by rw [zN0 bc, Int.toNat_natCast]
  refine Brn.mk (fun q => absurd c0 (ndT q)) (fun _ => ?_)
  refine Brn.mk (fun q => absurd bc (ndT q)) (fun _ => ?_)
  refine Chk.mk ⟨isI_mk, isI_mk, by rw [zA]; omega, by rw [zB]; omega⟩ ?_
  have rz : restV (zI (bchk A B) A) (zI (bchk A B) B) (zN (bchk A B) (A : Int).toNat) (zN (bchk A B) (B : Int).toNat) (fun _ => 0) (fun _ => 0) (zI (bchk A B) 0) = true := by
    rw [zA, zB, zI0 bc, zI0 bc, zI0 bc]; exact rest_zero bc rfl rfl
  refine Brn.mk (fun q => absurd rz (by rw [show restV (zI (bchk A B) A) (zI (bchk A B) B) (zN (bchk A B) (A : Int).toNat) (zN (bchk A B) (B : Int).toNat) (fun _ => 0) (fun _ => 0) (zI (bchk A B) 0) = false from Bool.not_eq_true' _ ▸ q]; decide)) (fun _ => ?_)
  refine LoopOK.mk ⟨{ x : Nat × (Nat → Int) × (Nat → Int) // (x.1 : Int) ≤ lenP d v A B ∧ FInv A B (blU d v) x.1 x.2.1 x.2.2 }, fun x => mkSt [(1, .loc 1 0), (5, .loc 5 0), (65, .int .i64 (lenP d v A B)), (66, .int .i64 x.1.1)]
    [(1, ⟨23, 4, 1, fun _ j => nth [.int .i64 d, .int .i64 v, .int .i64 A, .int .i64 B] j, 0, true⟩),
     (5, ⟨50, 8, 1, fun _ j => nth [.int .i64 A, .int .i64 B, .sl 1 A fun i _ => .int .i64 (x.1.2.1 i), .sl 1 B fun i _ => .int .i64 (x.1.2.2 i), .int .i64 (qP d v A B x.1.1), .int .i64 (vP d v A B x.1.1), .int .i64 (aP d v A B x.1.1), .int .i64 (jP d v A B x.1.1)] j, 0, true⟩)], fun x => (lenP d v A B).toNat - x.1.1,
    ⟨⟨(0, fun _ => 0, fun _ => 0), by show (0 : Int) ≤ _; omega, finv0 (blU_neg d v)⟩, ?_⟩, ?_⟩
  · refine wk_of [(1, some 1), (5, some 5)] rfl ⟨rfl, rfl, ⟨congrArg (AV.int .i64) (len_ok h), rfl⟩, ⟨rfl, rfl⟩, trivial⟩ ⟨RowLe.fin rfl rfl rfl rfl rfl ?_, RowLe.fin rfl rfl rfl rfl rfl ⟨trivial, ⟨⟨⟨⟨⟨⟨⟨⟨trivial, ?_⟩, ?_⟩, ?_⟩, ?_⟩, ?_⟩, ?_⟩, ?_⟩, ?_⟩⟩, trivial⟩
    · (repeat' first | exact trivial | exact ⟨by kernel_rfl, by kernel_rfl⟩ | exact Or.inr (by kernel_rfl) | (show _ = _; kernel_rfl) | refine ⟨?_, ?_⟩)
    · exact renI (zI0 bc)
    · exact renI (zI0 bc)
    · exact renS zA rfl
    · exact renS zB rfl
    · exact renI (by rw [zI0 bc]; exact (qP_zero (Int.le_refl _)).symm)
    · exact renI (by rw [zI0 bc]; exact (vP_zero (Int.le_refl _)).symm)
    · exact renI (by rw [zI0 bc]; show (0 : Int) = aP d v A B 0; rw [aP, vP_zero (by omega), vP_zero (by omega)]; rfl)
    · exact renI (by rw [zI0 bc]; show (0 : Int) = jP d v A B 0; rw [jP, vP_zero (by omega), vP_zero (by omega), vP_zero (by omega)]; rfl)
  rintro ⟨⟨k, F, G⟩, hk, HI⟩
  have hk : (k : Int) ≤ lenP d v A B := hk
  have HI : FInv A B (blU d v) k F G := HI
  refine Brn.mk (fun h1 => ?_) (fun h1 => ?_)
  · have h1 : (k : Int) < lenP d v A B := of_decide_eq_true h1
    have eU : sg d * bAt v (ab d / v) (ab d % v) k = blU d v k := rfl
    have hu : ifP d v A B (sg d * bAt v (ab d / v) (ab d % v) k) = blU d v k := by rw [ifP_ok h]; rfl
    have ck := finv_chk HI (blU_bd h) hA hB
    have nx := finv_next HI (blU_bd h) hA hB hu
    have ve := finv_vel HI (blU_bd h) hA hB hu
    rw [blU_v] at ve
    have q1 := qP_bd h k
    have q2 := qP_bd h (k + 1)
    have v1 := vP_bd h k
    have v2 := vP_bd h (k + 1)
    have v3 := vP_bd h (k - 1)
    have qs := q_step h (k + 1)
    rw [show (k : Int) + 1 - 1 = k by omega] at qs
    have pe : pos (qP d v A B k) (vel A B F G (ifP d v A B (sg d * bAt v (ab d / v) (ab d % v) k))) = qP d v A B (k + 1) := by rw [ve, pos_eq (by omega) (by omega)]; omega
    have ae : dif (vel A B F G (ifP d v A B (sg d * bAt v (ab d / v) (ab d % v) k))) (vP d v A B k) = aP d v A B (k + 1) := by rw [ve, dif_eq (by omega) (by omega), aP, show (k : Int) + 1 - 1 = k by omega]
    have je : dif (dif (vel A B F G (ifP d v A B (sg d * bAt v (ab d / v) (ab d % v) k))) (vP d v A B k)) (aP d v A B k) = jP d v A B (k + 1) := by
      have a1 : aP d v A B k = vP d v A B k - vP d v A B (k - 1) := rfl
      have a2 : aP d v A B (k + 1) = vP d v A B (k + 1) - vP d v A B k := by rw [aP, show (k : Int) + 1 - 1 = k by omega]
      rw [ae, dif_eq (by omega) (by omega), a1, a2, jP, show (k : Int) + 1 - 1 = k by omega, show (k : Int) + 1 - 2 = k - 1 by omega]; omega
    have kk : kP d v A B (wr ((k : Int) + 1)) = k + 1 := by rw [wr_id (by omega) (by omega)]; exact kP_of (by omega) (by omega)
    refine Chk.mk ⟨isI_mk, isI_mk, by omega, by omega⟩ ?_
    refine Brn.mk (fun q => absurd c0 (ndT q)) (fun _ => ?_)
    refine Brn.mk (fun q => absurd ck (ndT q)) (fun _ => ?_)
    refine Brn.mk (fun q => absurd c0 (ndT q)) (fun _ => ?_)
    refine Brn.mk (fun q => (eq4_ok ?_ ?_ ?_ ?_ q).elim) (fun _ => ?_)
    · exact ((zI0 ck).trans pe).trans (by rw [kk, ifP_ok h])
    · exact ((zI0 ck).trans ve).trans (by rw [kk, ifP_ok h])
    · exact ((zI0 ck).trans ae).trans (by rw [kk, ifP_ok h])
    · exact ((zI0 ck).trans je).trans (by rw [kk, ifP_ok h])
    refine ⟨⟨(k + 1, shf F A (uC (ifP d v A B (sg d * bAt v (ab d / v) (ab d % v) k))), shf G B (sm1 A F (ifP d v A B (sg d * bAt v (ab d / v) (ab d % v) k)))), by show ((k + 1 : Nat) : Int) ≤ _; omega, nx⟩, by show (lenP d v A B).toNat - (k + 1) < (lenP d v A B).toNat - k; omega, ?_⟩
    refine wk_of [(1, some 1), (5, some 5)] rfl ⟨rfl, rfl, ⟨rfl, rfl⟩, ⟨wrS (i := k) (by omega), rfl⟩, trivial⟩ ⟨RowLe.fin rfl rfl rfl rfl rfl ?_, RowLe.fin rfl rfl rfl rfl rfl ⟨trivial, ⟨⟨⟨⟨⟨⟨⟨⟨trivial, ?_⟩, ?_⟩, ?_⟩, ?_⟩, ?_⟩, ?_⟩, ?_⟩, ?_⟩⟩, trivial⟩
    · (repeat' first | exact trivial | exact ⟨by kernel_rfl, by kernel_rfl⟩ | exact Or.inr (by kernel_rfl) | (show _ = _; kernel_rfl) | refine ⟨?_, ?_⟩)
    · exact renI (zI0 ck)
    · exact renI (zI0 ck)
    · exact renS (zN0 ck) rfl
    · exact renS (zN0 ck) rfl
    · exact renI ((zI0 ck).trans pe)
    · exact renI ((zI0 ck).trans ve)
    · exact renI ((zI0 ck).trans ae)
    · exact renI ((zI0 ck).trans je)
  · have h1 : ¬ (k : Int) < lenP d v A B := of_decide_eq_false h1
    have hkn : (k : Int) = lenP d v A B := by omega
    refine Brn.mk (fun _ => AVle.bit (decide_eq_true ?_)) (fun q => absurd ?_ (of_decide_eq_false q))
    · show vP d v A B k = 0
      rw [hkn, end_v h]
    · show qP d v A B k = wr (wr (d * A) * B)
      rw [hkn, end_q h, dab h]

theorem lifted10 (os : Os) (started : os.Started) (H : Type) (enc : TypeId × Value → H) :
    ReturnsInHanded {} Try.checked os 10 .any (Rows.profileFeedsSpec.pre6 enc Try.prog Try.f10 Rows.profileFeedsRow.domain false) (Rows.profileFeedsSpec.post enc Try.prog Try.f10 false true false false) := by
  refine returnsInHanded_of_change (C := Try.checked) own0 started (by kernel_rfl) Try.func10
    (ChangeSpec.witness6 (enc := enc) (C := Try.checked) false ⟨#[], #[.agg #[.int .i64 0, .int .i64 0, .int .i64 0, .int .i64 0]], []⟩ 8 (by kernel_rfl) (by kernel_rfl) (by kernel_rfl) (by kernel_rfl)) ?_
  intro W base args ds gs before hval hW _ _
  exact law_contract tabE0 (d := 9) (tb := 4) [23] (by kernel_rfl) (by kernel_rfl) (by kernel_rfl) rfl laidOut0 (by kernel_rfl) (by kernel_rfl)
    (fun H ds h => match ds, h with | [_], _ => rfl) law10 hval hW

theorem ProfileFeeds_proved : Rows.ProfileFeedsSaid :=
  OpenClaim.holds_of_wide (p := Try.pinned) (s := Rows.profileFeedsSpec) (c := Rows.profileFeedsRow) 10 Try.f10 rfl rfl rfl rfl rfl rfl rfl ⟨rfl, rfl, rfl, rfl, rfl⟩ rfl rfl rfl rfl rfl (by kernel_rfl) Try.func10 (by kernel_rfl)
    (of_decide_eq_true (by kernel_rfl)) (by unfold Func.isWrapper; rw [if_neg (of_decide_eq_false (by kernel_rfl))]; exact ⟨rfl, rfl⟩)
    (fun os started H enc _ => lifted10 os started H enc)
end
end Go.Proofs.Ytpndkmppncpkgaa
