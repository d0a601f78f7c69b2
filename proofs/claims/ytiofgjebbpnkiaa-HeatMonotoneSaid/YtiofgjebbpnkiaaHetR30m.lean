/- Whole numbers that wrap round, shifts, quotients. Conditions: none. -/
import Derived.Test.YtiofgjebbpnkiaaHet3
namespace Go.Proofs.Ytiofgjebbpnkiaa.Img
open Go Go.Proofs.Ytiofgjebbpnkiaa.AI Go.Proofs
noncomputable section
set_option maxRecDepth 100000
def sh16 (n : Int) : Int := n.fdiv (2 ^ (min (16 : Int).toNat 64))
/-- A whole number in its range. -/
def InR (z : Int) : Prop := -9223372036854775808 ≤ z ∧ z ≤ 9223372036854775807
theorem inR_of {z : Int} (h : (Lit.int .i64 z).wf = true) : InR z := by
  simp [Lit.wf, IntKind.min, IntKind.max, IntKind.signed, IntKind.bits] at h
  exact ⟨by omega, by omega⟩
theorem wr_in {z : Int} (h : InR z) : wr z = z := wr_id h.1 h.2
theorem inR_wr (z : Int) : InR (wr z) := wr_range z
theorem wr_idem (z : Int) : wr (wr z) = wr z := wr_in (inR_wr z)
theorem wr_add_wr (a b : Int) : wr (a + wr b) = wr (a + b) := by
  rw [Int.add_comm, wr_wr_add, Int.add_comm]
theorem sh16_eq (x : Int) : sh16 x = x / 65536 := by
  show x.fdiv (2 ^ 16) = x / 65536
  rw [Int.fdiv_eq_ediv_of_nonneg _ (by decide)]
  rfl
/-- A quotient, rounded down. -/
theorem floor_div {x b : Int} (hb : 0 < b) (h : InR x) : floorI x b = x / b := by
  obtain ⟨h1, h2⟩ := h
  unfold floorI
  have e1 := Int.tdiv_eq_ediv (a := x) (b := b)
  have e2 := Int.mul_tdiv_add_tmod x b
  have e3 := Int.mul_ediv_add_emod x b
  have e4 := Int.emod_nonneg x (b := b) (by omega)
  have e5 := Int.emod_lt_of_pos x (b := b) hb
  have r1 : -9223372036854775808 ≤ x / b := (Int.le_ediv_iff_mul_le hb).2 (by omega)
  have r2 : x / b ≤ 9223372036854775807 := by
    by_cases hx : 0 ≤ x
    · exact Int.le_trans (Int.ediv_le_self b hx) h2
    · have := Int.ediv_neg_of_neg_of_pos (show x < 0 by omega) hb
      omega
  by_cases hx : 0 ≤ x ∨ b ∣ x
  · rw [if_pos hx] at e1
    have ht : x.tmod b = x % b := by
      have : b * x.tdiv b = b * (x / b) := by rw [e1]; simp
      omega
    rw [if_neg (by omega), wr_id (by omega) (by omega)]
    omega
  · rw [if_neg hx, Int.sign_eq_one_of_pos hb] at e1
    have hne : ¬ x % b = 0 := fun h => hx (.inr (Int.dvd_of_emod_eq_zero h))
    have ht : x.tmod b = x % b - b := by
      have : b * x.tdiv b = b * (x / b) + b := by rw [e1, Int.mul_add]; omega
      omega
    have hneg : x / b < 0 := Int.ediv_neg_of_neg_of_pos (by omega) hb
    rw [if_pos (by omega), wr_id (n := x.tdiv b) (by omega) (by omega), wr_id (by omega) (by omega)]
    omega
theorem floor_sh {x : Int} (h : InR x) : floorI x 65536 = sh16 x := by rw [sh16_eq, floor_div (by decide) h]
theorem sh16_in {x : Int} (h : InR x) : InR (sh16 x) := by
  rw [sh16_eq]
  obtain ⟨h1, h2⟩ := h
  exact ⟨by omega, by omega⟩
theorem clip_hC (x : Int) : clip x (-1099511627776) 1099511627776 = hC x := by
  unfold clip hC; omega
theorem hC_range (x : Int) : -1099511627776 ≤ hC x ∧ hC x ≤ 1099511627776 := by
  unfold hC; omega
theorem hC_in (x : Int) : InR (hC x) := by have := hC_range x; exact ⟨by omega, by omega⟩
theorem hC_mono {x y : Int} (h : x ≤ y) : hC x ≤ hC y := by unfold hC; omega
theorem pC_mono {x y : Int} (h : x ≤ y) : pC x ≤ pC y := by unfold pC; omega
end
end Go.Proofs.Ytiofgjebbpnkiaa.Img
