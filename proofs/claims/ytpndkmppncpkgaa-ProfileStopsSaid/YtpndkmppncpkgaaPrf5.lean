/- Chapter 37: what a law is handed. Conditions: none. -/
import Derived.Test.YtpndkmppncpkgaaPrf4
namespace Go.Proofs.Ytpndkmppncpkgaa.Img
open Go Go.Proofs.Ytpndkmppncpkgaa.AI Go.Proofs
noncomputable section
set_option maxRecDepth 100000
def InR (n : Int) : Prop := -9223372036854775808 ≤ n ∧ n ≤ 9223372036854775807
theorem openI {d : Nat} {l : List AV} (h : Arg E0 (d + 1) 3 l) : ∃ n, l = [.int .i64 n] ∧ InR n := by
  obtain ⟨z, rfl, hz⟩ := h
  refine ⟨z, rfl, ?_⟩
  simp [Lit.wf, IntKind.min, IntKind.max, IntKind.bits, IntKind.signed] at hz
  exact hz
theorem openP {l : List AV} {d : Nat} (h : Arg E0 (d + 2) 23 l) : ∃ x v a b, l = [.int .i64 x, .int .i64 v, .int .i64 a, .int .i64 b] ∧ InR x ∧ InR v ∧ InR a ∧ InR b := by
  obtain ⟨_, _, rfl, h1, _, _, rfl, h2, _, _, rfl, h3, _, _, rfl, h4, rfl⟩ := h
  obtain ⟨a, rfl, p1⟩ := openI h1
  obtain ⟨b, rfl, p2⟩ := openI h2
  obtain ⟨c, rfl, p3⟩ := openI h3
  obtain ⟨d, rfl, p4⟩ := openI h4
  exact ⟨a, b, c, d, rfl, p1, p2, p3, p4⟩
theorem few_ok {d v a b : Int} (q : (!decide (a ≤ 24 ∧ b ≤ 24 ∨ ¬ pOK d v a b)) = false) (h : pOK d v a b) : a ≤ 24 ∧ b ≤ 24 := by
  have := ndF q
  rcases this with h' | h'
  · exact h'
  · exact absurd h h'
theorem len_ok {d v a b : Int} (h : pOK d v a b) : (if pOK d v a b then lenP d v a b else 0) = lenP d v a b := if_pos h
theorem wr1 {d v a b : Int} (h : pOK d v a b) : wr (lenP d v a b - 1) = lenP d v a b - 1 := by have := lenP_bd h; exact wr_id (by omega) (by omega)
theorem kP_of {d v a b k : Int} (h : 0 ≤ k) (h' : k ≤ lenP d v a b) : kP d v a b k = k := by unfold kP clip; omega
theorem kP_hi {d v a b k : Int} (hp : pOK d v a b) (h' : lenP d v a b ≤ k) : kP d v a b k = lenP d v a b := by have := lenP_bd hp; unfold kP clip; omega
theorem kP_lo {d v a b k : Int} (hp : pOK d v a b) (h : k ≤ 0) : kP d v a b k = 0 := by have := lenP_bd hp; unfold kP clip; omega
theorem sg_ab (d : Int) : sg d * ab d = d := by unfold sg ab; split <;> omega
theorem sg_ne (d : Int) {x : Int} (h : x ≠ 0) : sg d * x ≠ 0 := by rcases sg_cases d with e | e <;> rw [e] <;> omega
theorem el_zero {d v a b : Int} (h : pOK d v a b) : elN (ab d / v) (ab d % v) = 0 ↔ d = 0 := by
  have B := h.blk
  have f0 := B.f0
  have r0 := B.r0
  have dd := B.dd
  have v1 := B.v1
  have c0 := ab_nonneg d
  have hd : ab d = 0 ↔ d = 0 := by unfold ab; split <;> omega
  rw [← hd]
  unfold elN
  constructor
  · intro h0
    split at h0
    · omega
    · have e1 : ab d / v = 0 := h0
      rw [e1, Int.zero_mul] at dd; omega
  · intro h0
    rw [h0]
    simp
theorem len_zero {v a b : Int} (h : pOK 0 v a b) : lenP 0 v a b = 0 := by rw [lenP, if_pos ((el_zero h).2 rfl)]
theorem len_pos {d v a b : Int} (h : pOK d v a b) (hd : d ≠ 0) : 0 < elN (ab d / v) (ab d % v) ∧ lenP d v a b = elN (ab d / v) (ab d % v) + a.toNat + b.toNat - 1 := by
  have h0 := (elN_bd h).1
  have h1 : elN (ab d / v) (ab d % v) ≠ 0 := fun e => hd ((el_zero h).1 e)
  refine ⟨by omega, ?_⟩
  rw [lenP, if_neg h1, toNat_bd h.2.1, toNat_bd h.2.2.1]
theorem end_pos {d v a b : Int} (h : pOK d v a b) {k : Int} (hk : lenP d v a b ≤ k) : d ≠ 0 → qP d v a b k = d * a * b := fun hd => by
  obtain ⟨h1, h2⟩ := len_pos h hd
  rw [qP, pF_end h.blk h1 (by omega), toNat_bd h.2.1, toNat_bd h.2.2.1, Int.mul_comm b, ← Int.mul_assoc a, ← Int.mul_assoc, Int.mul_comm a, ← Int.mul_assoc, sg_ab]
theorem end_q {d v a b : Int} (h : pOK d v a b) : qP d v a b (lenP d v a b) = d * a * b := by
  by_cases hd : d = 0
  · subst hd; rw [len_zero h, qP_zero (Int.le_refl _), Int.zero_mul, Int.zero_mul]
  · exact end_pos h (Int.le_refl _) hd
theorem end_v {d v a b : Int} (h : pOK d v a b) : vP d v a b (lenP d v a b) = 0 := by
  by_cases hd : d = 0
  · subst hd; rw [len_zero h, vP_zero (Int.le_refl _)]
  · obtain ⟨h1, h2⟩ := len_pos h hd
    rw [vP, velR, vF_end h.blk (by omega), Int.mul_zero]
theorem bef_v {d v a b : Int} (h : pOK d v a b) (hd : d ≠ 0) : vP d v a b (lenP d v a b - 1) ≠ 0 := by
  obtain ⟨h1, h2⟩ := len_pos h hd
  have a1 := h.2.1.1
  have b1 := h.2.2.1.1
  refine sg_ne d ?_
  have := vF_before h.blk (m1 := a.toNat) (m2 := b.toNat) (by omega) (by omega) h1
  rw [h2, show elN (ab d / v) (ab d % v) + (a.toNat : Int) + (b.toNat : Int) - 1 - 1 = elN (ab d / v) (ab d % v) + a.toNat + b.toNat - 2 by omega]
  omega
theorem dab {d v a b : Int} (h : pOK d v a b) : wr (wr (d * a) * b) = d * a * b := by
  obtain ⟨_, ⟨a1, a2⟩, ⟨b1, b2⟩, d1, d2⟩ := h
  have x1 : d * a ≤ 1099511627776 * 256 := by
    have : d * a ≤ 1099511627776 * a := Int.mul_le_mul_of_nonneg_right d2 (by omega)
    omega
  have x0 : -(1099511627776 * 256) ≤ d * a := by
    have : -1099511627776 * a ≤ d * a := Int.mul_le_mul_of_nonneg_right d1 (by omega)
    omega
  have y1 : d * a * b ≤ 281474976710656 * 256 := by
    have : d * a * b ≤ 281474976710656 * b := Int.mul_le_mul_of_nonneg_right (by omega) (by omega)
    omega
  have y0 : -(281474976710656 * 256) ≤ d * a * b := by
    have : -281474976710656 * b ≤ d * a * b := Int.mul_le_mul_of_nonneg_right (by omega) (by omega)
    omega
  rw [wr_id (n := d * a) (by omega) (by omega), wr_id (by omega) (by omega)]
theorem eq4_ok {x y z u x' y' z' u' : Int} (h1 : x = x') (h2 : y = y') (h3 : z = z') (h4 : u = u') (q : (!(decide (x = x') && (decide (y = y') && (decide (z = z') && (decide (u = u') && true))))) = true) : False := by
  subst h1 h2 h3 h4; simp at q
theorem q_step {d v a b : Int} (h : pOK d v a b) (k : Int) : qP d v a b k - qP d v a b (k - 1) = vP d v a b k := by
  unfold qP vP velR
  rw [← pF_vF h.blk, Int.mul_sub]
theorem eq4_yes {x y z u x' y' z' u' : Int} (h1 : x = x') (h2 : y = y') (h3 : z = z') (h4 : u = u') : (decide (x = x') && (decide (y = y') && (decide (z = z') && (decide (u = u') && true)))) = true := by
  subst h1 h2 h3 h4; simp
theorem eq4_no {x y z u x' y' z' u' : Int} (h1 : x = x') (h2 : y = y') (h3 : z = z') (h4 : u = u') (q : (decide (x = x') && (decide (y = y') && (decide (z = z') && (decide (u = u') && true)))) = false) : False := by
  rw [eq4_yes h1 h2 h3 h4] at q; cases q
theorem sw_k (d v a b k : Int) : kP d v b a k = kP d v a b k := by
  unfold kP lenP; rw [show elN (ab d / v) (ab d % v) + b + a - 1 = elN (ab d / v) (ab d % v) + a + b - 1 by omega]
theorem sw_q (d v a b k : Int) : qP d v b a k = qP d v a b k := by unfold qP; rw [pF_swap]
theorem sw_v (d v a b k : Int) : vP d v b a k = vP d v a b k := by unfold vP velR; rw [vF_swap]
theorem ng_ab (d : Int) : ab (-d) = ab d := by unfold ab; split <;> split <;> omega
theorem ng_k {d v a b k : Int} : kP (-d) v a b k = kP d v a b k := by unfold kP lenP; rw [ng_ab]
theorem ng_sg {d x : Int} (h : d = 0 → x = 0) : sg (-d) * x = -(sg d * x) := by
  by_cases h0 : d = 0
  · rw [h h0, Int.mul_zero, Int.mul_zero]; rfl
  · unfold sg
    split <;> split <;> omega
theorem zero_p {v a b k : Int} (h : pOK 0 v a b) : pF a.toNat b.toNat v (ab 0 / v) (ab 0) k = 0 := by
  have h1 := pF_nonneg h.blk a.toNat b.toNat k
  have h2 := pF_le h.blk a.toNat b.toNat k
  have : ab 0 = 0 := rfl
  rw [this, Int.mul_zero, Int.mul_zero] at h2
  rw [this] at h1 ⊢
  omega
theorem zero_v {v a b k : Int} (h : pOK 0 v a b) : vF a.toNat b.toNat v (ab 0 / v) (ab 0 % v) k = 0 := by
  rw [← pF_vF h.blk, zero_p h, zero_p h]; rfl
theorem ng_q {d v a b k : Int} (h : pOK d v a b) : qP (-d) v a b k = -qP d v a b k := by
  unfold qP; rw [ng_ab]
  exact ng_sg fun e => by subst e; exact zero_p h
theorem ng_v {d v a b k : Int} (h : pOK d v a b) : vP (-d) v a b k = -vP d v a b k := by
  unfold vP velR; rw [ng_ab]
  exact ng_sg fun e => by subst e; exact zero_v h
theorem sg_abs {d x m : Int} (h : 0 ≤ x ∧ x ≤ m) : -m ≤ sg d * x ∧ sg d * x ≤ m := sg_mul (sg_cases d) h
theorem sg_two {d x m : Int} (h : -m ≤ x ∧ x ≤ m) : -m ≤ sg d * x ∧ sg d * x ≤ m := by rcases sg_cases d with e | e <;> rw [e] <;> omega
theorem lim_bd {d v a b : Int} (h : pOK d v a b) : ab d * (a * b) ≤ 72057594037927936 ∧ v * (a * b) ≤ 72057594037927936 ∧ v * min a b ≤ 72057594037927936 := by
  have d1 := h.ad
  have d0 := ab_nonneg d
  obtain ⟨⟨v1, v2⟩, ⟨a1, a2⟩, ⟨b1, b2⟩, _⟩ := h
  have m1 : a * b ≤ 256 * 256 := Int.mul_le_mul a2 b2 (by omega) (by decide)
  have m0 : 0 ≤ a * b := Int.mul_nonneg (by omega) (by omega)
  have n1 : ab d * (a * b) ≤ 1099511627776 * 65536 := Int.mul_le_mul d1 m1 m0 (by decide)
  have p1 : v * (a * b) ≤ 16777216 * 65536 := Int.mul_le_mul v2 m1 m0 (by decide)
  have q1 : v * min a b ≤ 16777216 * 256 := Int.mul_le_mul v2 (by omega) (by omega) (by decide)
  omega
theorem lim_q {d v a b : Int} (h : pOK d v a b) (k : Int) : -(ab d * (a * b)) ≤ qP d v a b k ∧ qP d v a b k ≤ ab d * (a * b) ∧ 0 ≤ ab d * (a * b) ∧ ab d * (a * b) ≤ 4611686018427387904 := by
  have l := pF_le h.blk a.toNat b.toNat k
  have n := pF_nonneg h.blk a.toNat b.toNat k
  rw [toNat_bd h.2.1, toNat_bd h.2.2.1, ← Int.mul_assoc, Int.mul_comm] at l
  have := sg_abs (d := d) ⟨n, l⟩
  have := lim_bd h
  unfold qP; omega
theorem lim_v {d v a b : Int} (h : pOK d v a b) (k : Int) : -(v * (a * b)) ≤ vP d v a b k ∧ vP d v a b k ≤ v * (a * b) ∧ 0 ≤ v * (a * b) ∧ v * (a * b) ≤ 4611686018427387904 := by
  have l := vF_le h.blk a.toNat b.toNat k
  have n := vF_nonneg h.blk a.toNat b.toNat k
  rw [toNat_bd h.2.1, toNat_bd h.2.2.1, ← Int.mul_assoc, Int.mul_comm] at l
  have := sg_abs (d := d) ⟨n, l⟩
  have := lim_bd h
  unfold vP velR; omega
theorem lim_a {d v a b : Int} (h : pOK d v a b) (k : Int) : -(v * min a b) ≤ aP d v a b k ∧ aP d v a b k ≤ v * min a b ∧ 0 ≤ v * min a b ∧ v * min a b ≤ 4611686018427387904 := by
  have l := vF_acc_le h.blk a.toNat b.toNat k
  have l' := vF_acc_le' h.blk a.toNat b.toNat k
  rw [toNat_bd h.2.1] at l'
  rw [toNat_bd h.2.2.1] at l
  have := lim_bd h
  have e : v * min a b = a * v ∨ v * min a b = b * v := by
    rcases Int.le_total a b with q | q
    · left; rw [Int.min_eq_left q, Int.mul_comm]
    · right; rw [Int.min_eq_right q, Int.mul_comm]
  have n : 0 ≤ v * min a b := Int.mul_nonneg (by have := h.1; omega) (by have := h.2; omega)
  have key : aP d v a b k = sg d * (vF a.toNat b.toNat v (ab d / v) (ab d % v) k - vF a.toNat b.toNat v (ab d / v) (ab d % v) (k - 1)) := by unfold aP vP velR; rw [Int.mul_sub]
  have := sg_two (d := d) (x := vF a.toNat b.toNat v (ab d / v) (ab d % v) k - vF a.toNat b.toNat v (ab d / v) (ab d % v) (k - 1)) (m := v * min a b) (by rcases e with e | e <;> rw [e] <;> omega)
  rw [key]; omega
theorem lim_j {d v a b : Int} (h : pOK d v a b) (k : Int) : -(2 * v) ≤ jP d v a b k ∧ jP d v a b k ≤ 2 * v ∧ 0 ≤ 2 * v ∧ 2 * v ≤ 4611686018427387904 := by
  have l := vF_jerk_le h.blk a.toNat b.toNat k
  have := h.1
  have key : jP d v a b k = sg d * (vF a.toNat b.toNat v (ab d / v) (ab d % v) k - 2 * vF a.toNat b.toNat v (ab d / v) (ab d % v) (k - 1) + vF a.toNat b.toNat v (ab d / v) (ab d % v) (k - 2)) := by
    unfold jP vP velR; rw [Int.mul_add, Int.mul_sub, ← Int.mul_assoc, ← Int.mul_assoc, Int.mul_comm 2]
  have := sg_two (d := d) (x := vF a.toNat b.toNat v (ab d / v) (ab d % v) k - 2 * vF a.toNat b.toNat v (ab d / v) (ab d % v) (k - 1) + vF a.toNat b.toNat v (ab d / v) (ab d % v) (k - 2)) (m := 2 * v) (by omega)
  rw [key]; omega
end
end Go.Proofs.Ytpndkmppncpkgaa.Img
