/- Chapter 37: what a law is handed. Conditions: none. -/
import Derived.Test.YtpndkmppncpkgaaPrf4
namespace Go.Proofs.Ytpndkmppncpkgaa.Img
open Go Go.Proofs.Ytpndkmppncpkgaa.AI Go.Proofs
noncomputable section
set_option maxRecDepth 100000
def InR (n : Int) : Prop := -9223372036854775808 ≤ n ∧ n ≤ 9223372036854775807
theorem openI {d : Nat} {l : List AV} (h : Arg E0 (d + 1) 3 l) : ∃ n, l = [.int .i64 n] ∧ InR n := by
  obtain ⟨z, rfl, hz⟩ := h
  refine ⟨z, rfl, ?_⟩
  simp [Lit.wf, IntKind.min, IntKind.max, IntKind.bits, IntKind.signed] at hz
  exact hz
theorem openP {l : List AV} {d : Nat} (h : Arg E0 (d + 2) 23 l) : ∃ x v a b, l = [.int .i64 x, .int .i64 v, .int .i64 a, .int .i64 b] ∧ InR x ∧ InR v ∧ InR a ∧ InR b := by
  obtain ⟨_, _, rfl, h1, _, _, rfl, h2, _, _, rfl, h3, _, _, rfl, h4, rfl⟩ := h
  obtain ⟨a, rfl, p1⟩ := openI h1
  obtain ⟨b, rfl, p2⟩ := openI h2
  obtain ⟨c, rfl, p3⟩ := openI h3
  obtain ⟨d, rfl, p4⟩ := openI h4
  exact ⟨a, b, c, d, rfl, p1, p2, p3, p4⟩
theorem few_ok {d v a b : Int} (q : (!decide (a ≤ 24 ∧ b ≤ 24 ∨ ¬ pOK d v a b)) = false) (h : pOK d v a b) : a ≤ 24 ∧ b ≤ 24 := by
  have := ndF q
  rcases this with h' | h'
  · exact h'
  · exact absurd h h'
theorem len_ok {d v a b : Int} (h : pOK d v a b) : (if pOK d v a b then lenP d v a b else 0) = lenP d v a b := if_pos h
theorem wr1 {d v a b : Int} (h : pOK d v a b) : wr (lenP d v a b - 1) = lenP d v a b - 1 := by have := lenP_bd h; exact wr_id (by omega) (by omega)
theorem kP_of {d v a b k : Int} (h : 0 ≤ k) (h' : k ≤ lenP d v a b) : kP d v a b k = k := by unfold kP clip; omega
theorem kP_hi {d v a b k : Int} (hp : pOK d v a b) (h' : lenP d v a b ≤ k) : kP d v a b k = lenP d v a b := by have := lenP_bd hp; unfold kP clip; omega
theorem kP_lo {d v a b k : Int} (hp : pOK d v a b) (h : k ≤ 0) : kP d v a b k = 0 := by have := lenP_bd hp; unfold kP clip; omega
theorem sg_ab (d : Int) : sg d * ab d = d := by unfold sg ab; split <;> omega
theorem sg_ne (d : Int) {x : Int} (h : x ≠ 0) : sg d * x ≠ 0 := by rcases sg_cases d with e | e <;> rw [e] <;> omega
theorem el_zero {d v a b : Int} (h : pOK d v a b) : elN (ab d / v) (ab d % v) = 0 ↔ d = 0 := by
  have B := h.blk
  have f0 := B.f0
  have r0 := B.r0
  have dd := B.dd
  have v1 := B.v1
  have c0 := ab_nonneg d
  have hd : ab d = 0 ↔ d = 0 := by unfold ab; split <;> omega
  rw [← hd]
  unfold elN
  constructor
  · intro h0
    split at h0
    · omega
    · have e1 : ab d / v = 0 := h0
      rw [e1, Int.zero_mul] at dd; omega
  · intro h0
    rw [h0]
    simp
theorem len_zero {v a b : Int} (h : pOK 0 v a b) : lenP 0 v a b = 0 := by rw [lenP, if_pos ((el_zero h).2 rfl)]
theorem len_pos {d v a b : Int} (h : pOK d v a b) (hd : d ≠ 0) : 0 < elN (ab d / v) (ab d % v) ∧ lenP d v a b = elN (ab d / v) (ab d % v) + a.toNat + b.toNat - 1 := by
  have h0 := (elN_bd h).1
  have h1 : elN (ab d / v) (ab d % v) ≠ 0 := fun e => hd ((el_zero h).1 e)
  refine ⟨by omega, ?_⟩
  rw [lenP, if_neg h1, toNat_bd h.2.1, toNat_bd h.2.2.1]
theorem end_pos {d v a b : Int} (h : pOK d v a b) {k : Int} (hk : lenP d v a b ≤ k) : d ≠ 0 → qP d v a b k = d * a * b := fun hd => by
  obtain ⟨h1, h2⟩ := len_pos h hd
  rw [qP, pF_end h.blk h1 (by omega), toNat_bd h.2.1, toNat_bd h.2.2.1, Int.mul_comm b, ← Int.mul_assoc a, ← Int.mul_assoc, Int.mul_comm a, ← Int.mul_assoc, sg_ab]
theorem end_q {d v a b : Int} (h : pOK d v a b) : qP d v a b (lenP d v a b) = d * a * b := by
  by_cases hd : d = 0
  · subst hd; rw [len_zero h, qP_zero (Int.le_refl _), Int.zero_mul, Int.zero_mul]
  · exact end_pos h (Int.le_refl _) hd
theorem end_v {d v a b : Int} (h : pOK d v a b) : vP d v a b (lenP d v a b) = 0 := by
  by_cases hd : d = 0
  · subst hd; rw [len_zero h, vP_zero (Int.le_refl _)]
  · obtain ⟨h1, h2⟩ := len_pos h hd
    rw [vP, velR, vF_end h.blk (by omega), Int.mul_zero]
theorem bef_v {d v a b : Int} (h : pOK d v a b) (hd : d ≠ 0) : vP d v a b (lenP d v a b - 1) ≠ 0 := by
  obtain ⟨h1, h2⟩ := len_pos h hd
  have a1 := h.2.1.1
  have b1 := h.2.2.1.1
  refine sg_ne d ?_
  have := vF_before h.blk (m1 := a.toNat) (m2 := b.toNat) (by omega) (by omega) h1
  rw [h2, show elN (ab d / v) (ab d % v) + (a.toNat : Int) + (b.toNat : Int) - 1 - 1 = elN (ab d / v) (ab d % v) + a.toNat + b.toNat - 2 by omega]
  omega
theorem dab {d v a b : Int} (h : pOK d v a b) : wr (wr (d * a) * b) = d * a * b := by
  obtain ⟨_, ⟨a1, a2⟩, ⟨b1, b2⟩, d1, d2⟩ := h
  have x1 : d * a ≤ 1099511627776 * 256 := by
    have : d * a ≤ 1099511627776 * a := Int.mul_le_mul_of_nonneg_right d2 (by omega)
    omega
  have x0 : -(1099511627776 * 256) ≤ d * a := by
    have : -1099511627776 * a ≤ d * a := Int.mul_le_mul_of_nonneg_right d1 (by omega)
    omega
  have y1 : d * a * b ≤ 281474976710656 * 256 := by
    have : d * a * b ≤ 281474976710656 * b := Int.mul_le_mul_of_nonneg_right (by omega) (by omega)
    omega
  have y0 : -(281474976710656 * 256) ≤ d * a * b := by
    have : -281474976710656 * b ≤ d * a * b := Int.mul_le_mul_of_nonneg_right (by omega) (by omega)
    omega
  rw [wr_id (n := d * a) (by omega) (by omega), wr_id (by omega) (by omega)]
theorem eq4_ok {x y z u x' y' z' u' : Int} (h1 : x = x') (h2 : y = y') (h3 : z = z') (h4 : u = u') (q : (!(decide (x = x') && (decide (y = y') && (decide (z = z') && (decide (u = u') && true))))) = true) : False := by
  subst h1 h2 h3 h4; simp at q
theorem q_step {d v a b : Int} (h : pOK d v a b) (k : Int) : qP d v a b k - qP d v a b (k - 1) = vP d v a b k := by
  unfold qP vP velR
  rw [← pF_vF h.blk, Int.mul_sub]
end
end Go.Proofs.Ytpndkmppncpkgaa.Img
