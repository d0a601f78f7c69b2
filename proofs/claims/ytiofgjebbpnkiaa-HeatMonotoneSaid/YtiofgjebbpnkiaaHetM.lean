/- Layer 30: what a tick computes, in plain numbers. Conditions: none. -/
import Derived.Test.YtiofgjebbpnkiaaHet6
namespace Go.Proofs.Ytiofgjebbpnkiaa.Img
open Go Go.Proofs.Ytiofgjebbpnkiaa.AI Go.Proofs
noncomputable section

/-- A row's shares: the ambient's and the links'. -/
def sumW (am : Int) (lk : Nat → Int) : Nat → Int
  | 0 => am
  | k + 1 => sumW am lk k + lk k
/-- What an accepted configuration is. -/
structure GoodC (n : Nat) (g am : Nat → Int) (lk : Nat → Nat → Int) : Prop where
  n8 : n ≤ 8
  pos : 0 < n
  g : ∀ i, i < n → 0 ≤ g i ∧ g i ≤ 65536
  a : ∀ i, i < n → 0 ≤ am i ∧ am i ≤ 65536
  l : ∀ i j, i < n → j < n → 0 ≤ lk i j ∧ lk i j ≤ 65536
  sym : ∀ i j, i < n → j < n → lk i j = lk j i
  diag : ∀ i, i < n → lk i i = 0
  sum : ∀ i, i < n → sumW (am i) (lk i) n ≤ 65536
theorem badS_false {x : Int} (h : badS x = false) : 0 ≤ x ∧ x ≤ 65536 := by
  simp [badS] at h
  omega
theorem nodes_all {n : Nat} {g am : Nat → Int} {lk : Nat → Nat → Int} : ∀ {k i : Nat}, nodesE n g am lk k i = 0 → ∀ j, i ≤ j → j < i + k → nodeE n g am lk j = 0
  | 0, _, _, _, h1, h2 => by omega
  | k + 1, i, h, j, h1, h2 => by
    rw [nodesE] at h
    split at h
    · rename_i hi
      by_cases hj : j = i
      · rw [hj]; exact hi
      · exact nodes_all h j (by omega) (by omega)
    · rename_i hi
      exact absurd h hi
theorem link_walk {lk : Nat → Nat → Int} {i n : Nat} {am : Int} (hn : n ≤ 8) (ha : 0 ≤ am ∧ am ≤ 65536) (h : linkE lk i n 0 am = 0) :
    ∀ j, j ≤ n → linkE lk i (n - j) j (sumW am (lk i) j) = 0 ∧ 0 ≤ sumW am (lk i) j ∧ sumW am (lk i) j ≤ 65536 * (j + 1) ∧ ∀ t, t < j → (0 ≤ lk i t ∧ lk i t ≤ 65536) ∧ lk i t = lk t i ∧ (i = t → lk i t = 0)
  | 0, _ => ⟨h, ha.1, by simpa [sumW] using ha.2, fun t ht => by omega⟩
  | j + 1, hj => by
    obtain ⟨h1, h2, h3, h4⟩ := link_walk hn ha h j (by omega)
    have hjn : j < n := by omega
    have b1 : badS (lk i j) = false := by
      cases hb : badS (lk i j)
      · rfl
      · rw [linkE_bad hjn hb] at h1; cases h1
    have b2 : ¬ (¬ lk i j = lk j i ∨ (i = j ∧ ¬ lk i j = 0)) := fun hb => by
      rw [linkE_form hjn b1 hb] at h1; cases h1
    have b3 := badS_false b1
    rw [linkE_next hjn b1 b2, wr_id (by omega) (by omega)] at h1
    refine ⟨h1, by rw [sumW]; omega, by rw [sumW]; omega, fun t ht => ?_⟩
    by_cases e : t = j
    · subst e
      exact ⟨b3, by omega, by omega⟩
    · exact h4 t (by omega)
theorem good_of {n na nl : Nat} {g am : Nat → Int} {rl : Nat → Nat} {lk : Nat → Nat → Int} (h : hchk n na nl g am rl lk = 0) : GoodC n g am lk := by
  obtain ⟨z1, z2, z3, z4, z5, z6⟩ := hchk_zero h
  have hN : ∀ i, i < n → nodeE n g am lk i = 0 := fun i hi => nodes_all z6 i (by omega) (by omega)
  have hS : ∀ i, i < n → (0 ≤ g i ∧ g i ≤ 65536) ∧ (0 ≤ am i ∧ am i ≤ 65536) ∧ linkE lk i n 0 (am i) = 0 := fun i hi => by
    have := hN i hi
    rw [nodeE] at this
    split at this
    · cases this
    · rename_i hb
      simp only [not_or, Bool.not_eq_true] at hb
      exact ⟨badS_false hb.1, badS_false hb.2, this⟩
  have hW : ∀ i, i < n → _ := fun i hi => link_walk z2 (hS i hi).2.1 (hS i hi).2.2 n (Nat.le_refl _)
  refine ⟨z2, z1, fun i hi => (hS i hi).1, fun i hi => (hS i hi).2.1, fun i j hi hj => ((hW i hi).2.2.2 j hj).1, fun i j hi hj => ((hW i hi).2.2.2 j hj).2.1, fun i hi => ((hW i hi).2.2.2 i hi).2.2 rfl, fun i hi => ?_⟩
  have := (hW i hi).1
  rw [Nat.sub_self, linkE] at this
  split at this
  · cases this
  · omega

def accI (am A h : Int) (lk xs : Nat → Int) : Nat → Int
  | 0 => am * (A - h)
  | j + 1 => accI am A h lk xs j + lk j * (xs j - h)
/-- What flows in is between the least and the greatest difference, times the shares. -/
theorem acc_bounds {am A h lo hi : Int} {lk xs : Nat → Int} {n : Nat} (ha : 0 ≤ am) (hA : lo ≤ A ∧ A ≤ hi) (hl : ∀ j, j < n → 0 ≤ lk j) (hx : ∀ j, j < n → lo ≤ xs j ∧ xs j ≤ hi) :
    ∀ k, k ≤ n → sumW am lk k * (lo - h) ≤ accI am A h lk xs k ∧ accI am A h lk xs k ≤ sumW am lk k * (hi - h)
  | 0, _ => ⟨Int.mul_le_mul_of_nonneg_left (by omega) ha, Int.mul_le_mul_of_nonneg_left (by omega) ha⟩
  | k + 1, hk => by
    obtain ⟨h1, h2⟩ := acc_bounds (h := h) ha hA hl hx k (by omega)
    have h3 : lk k * (lo - h) ≤ lk k * (xs k - h) := Int.mul_le_mul_of_nonneg_left (by have := (hx k (by omega)).1; omega) (hl k (by omega))
    have h4 : lk k * (xs k - h) ≤ lk k * (hi - h) := Int.mul_le_mul_of_nonneg_left (by have := (hx k (by omega)).2; omega) (hl k (by omega))
    rw [accI, sumW, Int.add_mul, Int.add_mul]
    exact ⟨by omega, by omega⟩
theorem sumW_mono {am : Int} {lk : Nat → Int} {n : Nat} (hl : ∀ j, j < n → 0 ≤ lk j) : ∀ k, k ≤ n → am ≤ sumW am lk k ∧ sumW am lk (n - k) ≤ sumW am lk n := by
  have up : ∀ a b, a ≤ b → b ≤ n → sumW am lk a ≤ sumW am lk b := by
    intro a b hab
    induction hab with
    | refl => intro _; exact Int.le_refl _
    | @step m h ih =>
      intro hb
      have := ih (by omega)
      have := hl m (by omega)
      rw [sumW]
      omega
  exact fun k hk => ⟨up 0 k (by omega) hk, up (n - k) n (by omega) (by omega)⟩
theorem sum_le {am : Int} {lk : Nat → Int} {n k : Nat} (hl : ∀ j, j < n → 0 ≤ lk j) (hk : k ≤ n) : am ≤ sumW am lk k ∧ sumW am lk k ≤ sumW am lk n := by
  refine ⟨(sumW_mono hl k hk).1, ?_⟩
  have := (sumW_mono (am := am) hl (n - k) (by omega)).2
  rwa [show n - (n - k) = k by omega] at this
theorem amb_range (a : Int) : -549755813888 ≤ ambR a ∧ ambR a ≤ 549755813888 := by
  unfold ambR
  rw [wr_id (by omega) (by omega)]
  omega
/-- No sum wraps round. -/
theorem accR_val {am amb h : Int} {lk hs : Nat → Int} {n : Nat} (ha : 0 ≤ am) (hl : ∀ j, j < n → 0 ≤ lk j ∧ lk j ≤ 65536) (hS : sumW am lk n ≤ 65536) (hh : -1099511627776 ≤ h ∧ h ≤ 1099511627776) :
    ∀ k, k ≤ n → accR am amb h lk hs k = accI am (ambR amb) h lk (fun j => hC (hs j)) k := by
  have hA := amb_range amb
  have key : ∀ k, k ≤ n → -144115188075855872 ≤ accI am (ambR amb) h lk (fun j => hC (hs j)) k ∧ accI am (ambR amb) h lk (fun j => hC (hs j)) k ≤ 144115188075855872 := by
    intro k hk
    obtain ⟨h1, h2⟩ := acc_bounds (A := ambR amb) (h := h) (lo := -1099511627776) (hi := 1099511627776) (xs := fun j => hC (hs j)) ha ⟨by omega, by omega⟩ (fun j hj => (hl j hj).1) (fun j _ => hC_range (hs j)) k hk
    have h3 := sum_le (am := am) (fun j hj => (hl j hj).1) hk
    have h4 : sumW am lk k * (1099511627776 - h) ≤ 65536 * (1099511627776 - h) := Int.mul_le_mul_of_nonneg_right (by omega) (by omega)
    have h5 : 65536 * (-1099511627776 - h) ≤ sumW am lk k * (-1099511627776 - h) := Int.mul_le_mul_of_nonpos_right (by omega) (by omega)
    exact ⟨by omega, by omega⟩
  intro k
  induction k with
  | zero =>
    intro hk
    have := key 0 hk
    rw [accI] at this
    rw [accR, accI, wr_id (n := ambR amb - h) (by omega) (by omega), wr_id (by omega) (by omega)]
  | succ k ih =>
    intro hk
    have h1 := key k (by omega)
    have h2 := key (k + 1) hk
    have hx := hC_range (hs k)
    rw [accI] at h2
    rw [accR, accI, ih (by omega), wr_id (n := hC (hs k) - h) (by omega) (by omega), wr_add_wr, wr_id (by omega) (by omega)]
theorem pC_range (x : Int) : 0 ≤ pC x ∧ pC x ≤ 1073741824 := by unfold pC; omega
/-- A tick: the mean, and the gain. -/
theorem step_val {n : Nat} {g am : Nat → Int} {lk : Nat → Nat → Int} (G : GoodC n g am lk) {hs ps : Nat → Int} {amb : Int} {i : Nat} (hi : i < n) {lo hi' : Int} (hlo : lo ≤ ambR amb ∧ ambR amb ≤ hi') (hx : ∀ j, j < n → lo ≤ hC (hs j) ∧ hC (hs j) ≤ hi') :
    stepR n g am lk hs ps amb i = hC (hC (hs i) + accI (am i) (ambR amb) (hC (hs i)) (lk i) (fun j => hC (hs j)) n / 65536 + g i * pC (ps i)) ∧
    lo ≤ hC (hs i) + accI (am i) (ambR amb) (hC (hs i)) (lk i) (fun j => hC (hs j)) n / 65536 ∧ hC (hs i) + accI (am i) (ambR amb) (hC (hs i)) (lk i) (fun j => hC (hs j)) n / 65536 ≤ hi' := by
  have hh := hC_range (hs i)
  have hA := amb_range amb
  have hl := fun j hj => G.l i j hi hj
  have bnd : ∀ lo hi', lo ≤ ambR amb ∧ ambR amb ≤ hi' → (∀ j, j < n → lo ≤ hC (hs j) ∧ hC (hs j) ≤ hi') →
      65536 * (lo - hC (hs i)) ≤ accI (am i) (ambR amb) (hC (hs i)) (lk i) (fun j => hC (hs j)) n ∧ accI (am i) (ambR amb) (hC (hs i)) (lk i) (fun j => hC (hs j)) n ≤ 65536 * (hi' - hC (hs i)) := by
    intro lo hi' hlo hx
    obtain ⟨h1, h2⟩ := acc_bounds (A := ambR amb) (h := hC (hs i)) (xs := fun j => hC (hs j)) (G.a i hi).1 hlo (fun j hj => (hl j hj).1) hx n (Nat.le_refl _)
    have hS := G.sum i hi
    have hx2 := hx i hi
    have h4 : sumW (am i) (lk i) n * (hi' - hC (hs i)) ≤ 65536 * (hi' - hC (hs i)) := Int.mul_le_mul_of_nonneg_right hS (by omega)
    have h5 : 65536 * (lo - hC (hs i)) ≤ sumW (am i) (lk i) n * (lo - hC (hs i)) := Int.mul_le_mul_of_nonpos_right hS (by omega)
    exact ⟨by omega, by omega⟩
  obtain ⟨b1, b2⟩ := bnd (-1099511627776) 1099511627776 ⟨by omega, by omega⟩ (fun j _ => hC_range (hs j))
  obtain ⟨b3, b4⟩ := bnd lo hi' hlo hx
  refine ⟨?_, by omega, by omega⟩
  unfold stepR
  rw [accR_val (G.a i hi).1 hl (G.sum i hi) hh n (Nat.le_refl _)]
  generalize accI (am i) (ambR amb) (hC (hs i)) (lk i) (fun j => hC (hs j)) n = X at b1 b2
  have hP := pC_range (ps i)
  have hg := G.g i hi
  have m1 : 0 ≤ g i * pC (ps i) := Int.mul_nonneg hg.1 hP.1
  have m2 : g i * pC (ps i) ≤ 65536 * 1073741824 := by
    have h1 : g i * pC (ps i) ≤ g i * 1073741824 := Int.mul_le_mul_of_nonneg_left hP.2 hg.1
    omega
  rw [floor_sh ⟨by omega, by omega⟩, sh16_eq, wr_id (n := g i * pC (ps i)) (by omega) (by omega), wr_id (n := X / 65536 + g i * pC (ps i)) (by omega) (by omega), wr_id (by omega) (by omega)]
  rw [Int.add_assoc]
end
end Go.Proofs.Ytiofgjebbpnkiaa.Img
