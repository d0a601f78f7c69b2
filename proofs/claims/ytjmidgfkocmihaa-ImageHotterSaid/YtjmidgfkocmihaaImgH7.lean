/- Layer 30: what a tick computes, in plain numbers. Conditions: none. -/
import Derived.Test.YtjmidgfkocmihaaImgH6
namespace Go.Proofs.Ytjmidgfkocmihaa.Img
open Go Go.Proofs.Ytjmidgfkocmihaa.AI Go.Proofs
noncomputable section

/-- A row's shares: the ambient's and the links'. -/
def sumW (am : Int) (lk : Nat → Int) : Nat → Int
  | 0 => am
  | k + 1 => sumW am lk k + lk k
/-- What an accepted configuration is. -/
structure GoodC (n : Nat) (g am : Nat → Int) (lk : Nat → Nat → Int) : Prop where
  n8 : n ≤ 8
  pos : 0 < n
  g : ∀ i, i < n → 0 ≤ g i ∧ g i ≤ 65536
  a : ∀ i, i < n → 0 ≤ am i ∧ am i ≤ 65536
  l : ∀ i j, i < n → j < n → 0 ≤ lk i j ∧ lk i j ≤ 65536
  sym : ∀ i j, i < n → j < n → lk i j = lk j i
  diag : ∀ i, i < n → lk i i = 0
  sum : ∀ i, i < n → sumW (am i) (lk i) n ≤ 65536
theorem badS_false {x : Int} (h : badS x = false) : 0 ≤ x ∧ x ≤ 65536 := by
  simp [badS] at h
  omega
theorem nodes_all {n : Nat} {g am : Nat → Int} {lk : Nat → Nat → Int} : ∀ {k i : Nat}, nodesE n g am lk k i = 0 → ∀ j, i ≤ j → j < i + k → nodeE n g am lk j = 0
  | 0, _, _, _, h1, h2 => by omega
  | k + 1, i, h, j, h1, h2 => by
    rw [nodesE] at h
    split at h
    · rename_i hi
      by_cases hj : j = i
      · rw [hj]; exact hi
      · exact nodes_all h j (by omega) (by omega)
    · rename_i hi
      exact absurd h hi
theorem link_walk {lk : Nat → Nat → Int} {i n : Nat} {am : Int} (hn : n ≤ 8) (ha : 0 ≤ am ∧ am ≤ 65536) (h : linkE lk i n 0 am = 0) :
    ∀ j, j ≤ n → linkE lk i (n - j) j (sumW am (lk i) j) = 0 ∧ 0 ≤ sumW am (lk i) j ∧ sumW am (lk i) j ≤ 65536 * (j + 1) ∧ ∀ t, t < j → (0 ≤ lk i t ∧ lk i t ≤ 65536) ∧ lk i t = lk t i ∧ (i = t → lk i t = 0)
  | 0, _ => ⟨h, ha.1, by simpa [sumW] using ha.2, fun t ht => by omega⟩
  | j + 1, hj => by
    obtain ⟨h1, h2, h3, h4⟩ := link_walk hn ha h j (by omega)
    have hjn : j < n := by omega
    have b1 : badS (lk i j) = false := by
      cases hb : badS (lk i j)
      · rfl
      · rw [linkE_bad hjn hb] at h1; cases h1
    have b2 : ¬ (¬ lk i j = lk j i ∨ (i = j ∧ ¬ lk i j = 0)) := fun hb => by
      rw [linkE_form hjn b1 hb] at h1; cases h1
    have b3 := badS_false b1
    rw [linkE_next hjn b1 b2, wr_id (by omega) (by omega)] at h1
    refine ⟨h1, by rw [sumW]; omega, by rw [sumW]; omega, fun t ht => ?_⟩
    by_cases e : t = j
    · subst e
      exact ⟨b3, by omega, by omega⟩
    · exact h4 t (by omega)
theorem good_of {n na nl : Nat} {g am : Nat → Int} {rl : Nat → Nat} {lk : Nat → Nat → Int} (h : hchk n na nl g am rl lk = 0) : GoodC n g am lk := by
  obtain ⟨z1, z2, z3, z4, z5, z6⟩ := hchk_zero h
  have hN : ∀ i, i < n → nodeE n g am lk i = 0 := fun i hi => nodes_all z6 i (by omega) (by omega)
  have hS : ∀ i, i < n → (0 ≤ g i ∧ g i ≤ 65536) ∧ (0 ≤ am i ∧ am i ≤ 65536) ∧ linkE lk i n 0 (am i) = 0 := fun i hi => by
    have := hN i hi
    rw [nodeE] at this
    split at this
    · cases this
    · rename_i hb
      simp only [not_or, Bool.not_eq_true] at hb
      exact ⟨badS_false hb.1, badS_false hb.2, this⟩
  have hW : ∀ i, i < n → _ := fun i hi => link_walk z2 (hS i hi).2.1 (hS i hi).2.2 n (Nat.le_refl _)
  refine ⟨z2, z1, fun i hi => (hS i hi).1, fun i hi => (hS i hi).2.1, fun i j hi hj => ((hW i hi).2.2.2 j hj).1, fun i j hi hj => ((hW i hi).2.2.2 j hj).2.1, fun i hi => ((hW i hi).2.2.2 i hi).2.2 rfl, fun i hi => ?_⟩
  have := (hW i hi).1
  rw [Nat.sub_self, linkE] at this
  split at this
  · cases this
  · omega


theorem cov_zero {ga lo : Int} {n : Nat} {g am : Nat → Int} {lk : Nat → Nat → Int} {i : Nat} (h : covB ga lo n g am lk i = true) : g i ≤ ga ∧ lo ≤ am i ∧ ∀ j, j < n → lk i j = 0 := by
  unfold covB at h
  rw [Bool.and_eq_true, Bool.and_eq_true, Bool.not_eq_true'] at h
  refine ⟨of_decide_eq_true h.1.1, of_decide_eq_true h.1.2, fun j hj => ?_⟩
  have := anyP_no h.2 j hj
  exact i2_ndF this
theorem chk_rng {ga lo w t c : Int} (h : chk ga lo w t c = 0) : (0 ≤ ga ∧ ga ≤ 65536) ∧ 0 ≤ lo ∧ lo ≤ 65536 := by
  have b : ∀ x : Int, badR x 0 65536 = false → 0 ≤ x ∧ x ≤ 65536 := fun x hx => by
    simp [badR] at hx
    omega
  unfold chk at h
  split at h
  · cases h
  · rename_i hb
    simp only [Bool.or_eq_true, not_or, Bool.not_eq_true] at hb
    exact ⟨b _ hb.1.1.1.1, b _ hb.1.1.1.2⟩
theorem acc_zero {am amb h : Int} {lk hs : Nat → Int} : ∀ {k : Nat}, (∀ j, j < k → lk j = 0) → accR am amb h lk hs k = wr (am * wr (ambR amb - h))
  | 0, _ => rfl
  | k + 1, hz => by
    rw [accR, acc_zero (fun j hj => hz j (by omega)), hz k (by omega), Int.zero_mul, show wr 0 = 0 by decide, Int.add_zero, wr_idem]
theorem mulB {a b A B : Int} (h1 : 0 ≤ a) (h2 : a ≤ A) (h3 : -B ≤ b) (h4 : b ≤ B) (h0 : 0 ≤ B) : -(A * B) ≤ a * b ∧ a * b ≤ A * B := by
  have p1 := Int.mul_nonneg h1 (show 0 ≤ B - b by omega)
  have p2 := Int.mul_nonneg h1 (show 0 ≤ b + B by omega)
  have p3 := Int.mul_nonneg (show 0 ≤ A - a by omega) h0
  rw [Int.mul_sub] at p1
  rw [Int.mul_add] at p2
  rw [Int.sub_mul] at p3
  omega
theorem node_eq {n : Nat} {g am : Nat → Int} {lk : Nat → Nat → Int} {hs ps : Nat → Int} {amb : Int} {i : Nat} (hz : ∀ j, j < n → lk i j = 0) (hg : 0 ≤ g i ∧ g i ≤ 65536) (ha : 0 ≤ am i ∧ am i ≤ 65536) :
    stepR n g am lk hs ps amb i = hC (hC (hs i) + ((am i * (max (-8388608) (min amb 8388608) * 65536 - hC (hs i))) / 65536 + g i * pC (ps i))) := by
  unfold stepR
  rw [acc_zero hz, floor_sh (inR_wr _), sh16_eq]
  have hx : -1099511627776 ≤ hC (hs i) ∧ hC (hs i) ≤ 1099511627776 := by unfold hC; omega
  have hp : 0 ≤ pC (ps i) ∧ pC (ps i) ≤ 1073741824 := by unfold pC; omega
  have hA : ambR amb = max (-8388608) (min amb 8388608) * 65536 := wr_id (by omega) (by omega)
  have hA2 : -549755813888 ≤ max (-8388608) (min amb 8388608) * 65536 ∧ max (-8388608) (min amb 8388608) * 65536 ≤ 549755813888 := by omega
  rw [hA]
  generalize max (-8388608) (min amb 8388608) * 65536 = A at *
  generalize hC (hs i) = x at *
  generalize pC (ps i) = p at *
  rw [wr_id (n := A - x) (by omega) (by omega)]
  have m1 := mulB (b := A - x) (B := 1649267441664) ha.1 ha.2 (by omega) (by omega) (by omega)
  have m2 := mulB (b := p) (B := 1073741824) hg.1 hg.2 (by omega) (by omega) (by omega)
  generalize am i * (A - x) = u at *
  generalize g i * p = v at *
  rw [wr_id (n := u) (by omega) (by omega), wr_id (n := v) (by omega) (by omega), wr_id (n := u / 65536 + v) (by omega) (by omega), wr_id (by omega) (by omega)]
theorem img_eq {ga lo own p a : Int} (hg : 0 ≤ ga ∧ ga ≤ 65536) (hl : 0 ≤ lo ∧ lo ≤ 65536) (ha : -8388608 ≤ a ∧ a ≤ 8388608) :
    stepI ga lo own p a = hC (hC own + ((lo * (a * 65536 - hC own)) / 65536 + ga * pC p)) := by
  have c1 : ∀ z, clip z (-1099511627776) 1099511627776 = hC z := fun z => by unfold clip hC; omega
  have c2 : ∀ z, clip z 0 1073741824 = pC z := fun z => by unfold clip pC; omega
  have c3 : clip a (-8388608) 8388608 = a := by unfold clip; omega
  have s16 : ∀ z : Int, z.fdiv (2 ^ (min (16 : Int).toNat 64)) = z / 65536 := sh16_eq
  unfold stepI
  rw [s16, c1, c1, c2, c3, show (2 : Int) ^ (min (16 : Int).toNat 64) = 65536 by decide]
  have hx : -1099511627776 ≤ hC own ∧ hC own ≤ 1099511627776 := by unfold hC; omega
  have hp : 0 ≤ pC p ∧ pC p ≤ 1073741824 := by unfold pC; omega
  rw [wr_id (n := a * 65536) (by omega) (by omega)]
  have hA2 : -549755813888 ≤ a * 65536 ∧ a * 65536 ≤ 549755813888 := by omega
  generalize a * 65536 = A at *
  generalize hC own = x at *
  generalize pC p = q at *
  rw [wr_id (n := A - x) (by omega) (by omega)]
  have m1 := mulB (b := A - x) (B := 1649267441664) hl.1 hl.2 (by omega) (by omega) (by omega)
  have m2 := mulB (b := q) (B := 1073741824) hg.1 hg.2 (by omega) (by omega) (by omega)
  generalize lo * (A - x) = u at *
  generalize ga * q = v at *
  rw [wr_id (n := u) (by omega) (by omega), wr_id (n := v) (by omega) (by omega), wr_id (n := x + u / 65536) (by omega) (by omega), wr_id (by omega) (by omega), Int.add_assoc]
theorem hot_next {n : Nat} {g am : Nat → Int} {lk : Nat → Nat → Int} {hs ps : Nat → Int} {amb : Int} {i : Nat} {ga lo own p a : Int} (hi : i < n) (hc : GoodC n g am lk) (hz : ∀ j, j < n → lk i j = 0)
    (hga : 0 ≤ ga ∧ ga ≤ 65536) (hlo : 0 ≤ lo) (hl : lo ≤ am i) (hg : g i ≤ ga) (ho : hs i ≤ own) (hao : a * 65536 ≤ own) (ha : -8388608 ≤ a ∧ a ≤ 8388608) (hab : amb ≤ a) (hp : pC (ps i) ≤ pC p) :
    stepR n g am lk hs ps amb i ≤ stepI ga lo own p a ∧ a * 65536 ≤ stepI ga lo own p a := by
  have hg2 := hc.g i hi
  have ha2 := hc.a i hi
  rw [node_eq hz hg2 ha2, img_eq hga ⟨hlo, by omega⟩ ha]
  have hxy : hC (hs i) ≤ hC own := by unfold hC; omega
  have hBy : a * 65536 ≤ hC own := by unfold hC; omega
  have hAB : max (-8388608) (min amb 8388608) * 65536 ≤ a * 65536 := by omega
  have hP : 0 ≤ pC (ps i) := by unfold pC; omega
  have hB2 : a * 65536 ≤ 1099511627776 := by omega
  generalize max (-8388608) (min amb 8388608) * 65536 = A at *
  generalize a * 65536 = B at *
  generalize hC (hs i) = x at *
  generalize hC own = y at *
  generalize pC (ps i) = P at *
  generalize pC p = Q at *
  generalize am i = m at *
  generalize g i = G at *
  have t1 := Int.mul_nonneg (show 0 ≤ 65536 - m by omega) (show 0 ≤ y - x by omega)
  have t2 := Int.mul_nonneg (show 0 ≤ m by omega) (show 0 ≤ B - A by omega)
  have t3 := Int.mul_nonneg (show 0 ≤ m - lo by omega) (show 0 ≤ y - B by omega)
  have t4 := Int.mul_nonneg (show 0 ≤ ga - G by omega) hP
  have t5 := Int.mul_nonneg hga.1 (show 0 ≤ Q - P by omega)
  have t6 := Int.mul_nonneg (show 0 ≤ 65536 - lo by omega) (show 0 ≤ y - B by omega)
  have t7 := Int.mul_nonneg hga.1 (show 0 ≤ Q by omega)
  simp only [Int.sub_mul, Int.mul_sub] at t1 t2 t3 t4 t5 t6
  rw [Int.mul_sub, Int.mul_sub]
  generalize m * x = mx at *
  generalize m * y = my at *
  generalize m * A = mA at *
  generalize m * B = mB at *
  generalize lo * y = ly at *
  generalize lo * B = lB at *
  generalize ga * P = gaP at *
  generalize ga * Q = gaQ at *
  generalize G * P = GP at *
  unfold hC
  omega
end
end Go.Proofs.Ytjmidgfkocmihaa.Img
