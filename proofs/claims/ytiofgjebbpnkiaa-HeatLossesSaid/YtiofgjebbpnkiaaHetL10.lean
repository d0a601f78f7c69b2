/- Chapter 30: Celsius and Loss return what is specified, for all arguments; a loss does not depend on the direction of the current. Conditions: none. -/
import Derived.Test.YtiofgjebbpnkiaaHet6
import Derived.Test.YtiofgjebbpnkiaaRows
import Derived.ProofKit
namespace Go.Proofs.Ytiofgjebbpnkiaa
open Go Go.Proofs.Ytiofgjebbpnkiaa.AI Go.Proofs Go.Proofs.Ytiofgjebbpnkiaa.Img Go.ChangeShapes Go.WideShapes Go.ChangeAt Go.RowKit
noncomputable section
set_option maxRecDepth 100000

theorem loss_val (c m : Int) : lossP c m = (clip m 0 1048576 * clip c (-1048576) 1048576 * clip c (-1048576) 1048576).tdiv 1048576 ∧ 0 ≤ lossP c m := by
  have hm : 0 ≤ clip m 0 1048576 ∧ clip m 0 1048576 ≤ 1048576 := by unfold clip; omega
  have hc : -1048576 ≤ clip c (-1048576) 1048576 ∧ clip c (-1048576) 1048576 ≤ 1048576 := by unfold clip; omega
  unfold lossP
  generalize clip m 0 1048576 = a at hm
  generalize clip c (-1048576) 1048576 = b at hc
  have k1 : a * b ≤ 1099511627776 := by
    have h1 : a * b ≤ a * 1048576 := Int.mul_le_mul_of_nonneg_left hc.2 hm.1
    omega
  have k2 : -1099511627776 ≤ a * b := by
    have h1 : a * (-1048576) ≤ a * b := Int.mul_le_mul_of_nonneg_left hc.1 hm.1
    omega
  have k3 : 0 ≤ b * b ∧ b * b ≤ 1099511627776 := by
    rcases Int.le_total 0 b with h | h
    · have h1 : b * b ≤ b * 1048576 := Int.mul_le_mul_of_nonneg_left hc.2 h
      exact ⟨Int.mul_nonneg h h, by omega⟩
    · have h1 : (-b) * (-b) ≤ (-b) * 1048576 := Int.mul_le_mul_of_nonneg_left (by omega) (by omega)
      have h2 : (-b) * (-b) = b * b := Int.neg_mul_neg b b
      have h3 : 0 ≤ (-b) * (-b) := Int.mul_nonneg (by omega) (by omega)
      exact ⟨by omega, by omega⟩
  have k4 : 0 ≤ a * b * b := by rw [Int.mul_assoc]; exact Int.mul_nonneg hm.1 k3.1
  have k5 : a * b * b ≤ 1152921504606846976 := by
    rw [Int.mul_assoc]
    have h1 : a * (b * b) ≤ a * 1099511627776 := Int.mul_le_mul_of_nonneg_left k3.2 hm.1
    omega
  rw [wr_id (n := a * b) (by omega) (by omega), wr_id (n := a * b * b) (by omega) (by omega)]
  have k6 : 0 ≤ (a * b * b).tdiv 1048576 := Int.tdiv_nonneg k4 (by decide)
  have k7 : (a * b * b).tdiv 1048576 ≤ 1152921504606846976 := by
    rw [Int.tdiv_eq_ediv_of_nonneg k4]
    omega
  rw [wr_id (by omega) (by omega)]
  exact ⟨rfl, k6⟩
theorem loss_back (c m : Int) : lossP (wr (0 - max (-1048576) (min c 1048576))) m = lossP c m := by
  rw [wr_id (by omega) (by omega), (loss_val _ m).1, (loss_val c m).1]
  have e : clip (0 - max (-1048576) (min c 1048576)) (-1048576) 1048576 = -clip c (-1048576) 1048576 := by unfold clip; omega
  rw [e, Int.mul_neg, Int.mul_neg, Int.neg_mul, Int.neg_neg]
theorem law10 (avs : List AV) (H : ArgAll E0 9 [22, 3, 3] avs) : FnOK Try.prog TE 10 avs (.bit true) := by
  obtain ⟨l, m, n, hl, hm, hn, rfl⟩ := argAll3 H
  obtain ⟨k, f, rfl, h1, hr, _⟩ := openS hl
  obtain ⟨c, rfl, _⟩ := openI hm
  obtain ⟨m, rfl, _⟩ := openI hn
  show FnOK Try.prog TE 10 [.sl 1 k f, .int .i64 c, .int .i64 m] (.bit true)
  refine fn_ofF tabsOK (specOK_cons okAwake (specOK_cons okLoss (specOK_cons okLossR (specOK_cons okBClip (specOK_cons okHCel (specOK_cons okR30cel (specOK_cons okInts specOK_nil))))))) mixed Try.func10 (by kernel_rfl) ?_
  refine Brn.mk (fun _ => AVle.bit rfl) (fun q => ?_)
  have q : ¬ 1000 < (k : Int) := of_decide_eq_false q
  have hk : k ≤ 1048576 := by omega
  refine Chk.mk ⟨⟨rfl, h1⟩, hk⟩ (Chk.mk ⟨⟨rfl, h1⟩, hk⟩ (Chk.mk ⟨isI_mk, isI_mk, hk, hk⟩ ?_))
  have hs : (decide ((k : Int) = k) && sameB (vI fun i _ => .int .i64 (sh16 (vI f i))) (vI fun i _ => .int .i64 (floorI (vI f i) 65536)) k 0) = true := by
    rw [decide_eq_true rfl, Bool.true_and]
    refine sameB_of k 0 fun j _ hj => ?_
    exact (floor_sh (hr j (by omega))).symm
  refine Brn.mk (fun _ => ?_) (fun q => absurd (hs.symm.trans q) (by decide))
  refine Brn.mk (fun _ => ?_) (fun q => absurd rfl (of_decide_eq_false q))
  refine Brn.mk (fun _ => ?_) (fun q => absurd (loss_back c m).symm (of_decide_eq_false q))
  exact AVle.bit (decide_eq_true (loss_val c m).2)

theorem lifted10 (os : Os) (started : os.Started) (H : Type) (enc : TypeId × Value → H) :
    ReturnsInHanded {} Try.checked os 10 .any (Rows.heatLossesSpec.pre6 enc Try.prog Try.f10 Rows.heatLossesRow.domain false) (Rows.heatLossesSpec.post enc Try.prog Try.f10 false true false false) := by
  refine returnsInHanded_of_change (C := Try.checked) own0 started (by kernel_rfl) Try.func10
    (ChangeSpec.witness6 (enc := enc) (C := Try.checked) false ⟨#[], #[.slice none 0 0, .int .i64 0, .int .i64 0], []⟩ 8 (by kernel_rfl) (by kernel_rfl) (by kernel_rfl) (by kernel_rfl)) ?_
  intro W base args ds gs before hval hW _ _
  exact law_contract tabE0 (d := 9) (tb := 4) [22, 3, 3] (by kernel_rfl) (by kernel_rfl) (by kernel_rfl) rfl laidOut0 (by kernel_rfl) (by kernel_rfl)
    (fun H ds h => match ds, h with | [_, _, _], _ => rfl) law10 hval hW

theorem HeatLosses_proved : Rows.HeatLossesSaid :=
  OpenClaim.holds_of_wide (p := Try.pinned) (s := Rows.heatLossesSpec) (c := Rows.heatLossesRow) 10 Try.f10 rfl rfl rfl rfl rfl rfl rfl ⟨rfl, rfl, rfl, rfl, rfl⟩ rfl rfl rfl rfl rfl (by kernel_rfl) Try.func10 (by kernel_rfl)
    (of_decide_eq_true (by kernel_rfl)) (by unfold Func.isWrapper; rw [if_neg (of_decide_eq_false (by kernel_rfl))]; exact ⟨rfl, rfl⟩)
    (fun os started H enc _ => lifted10 os started H enc)
end
end Go.Proofs.Ytiofgjebbpnkiaa
