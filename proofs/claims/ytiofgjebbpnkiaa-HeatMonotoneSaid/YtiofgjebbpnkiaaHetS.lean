/- Layer 30: sums of heats. Conditions: none. -/
import Derived.Test.YtiofgjebbpnkiaaHetN
namespace Go.Proofs.Ytiofgjebbpnkiaa.Img
open Go Go.Proofs.Ytiofgjebbpnkiaa.AI Go.Proofs
noncomputable section

def sumH (f : Nat → Int) : Nat → Int
  | 0 => 0
  | k + 1 => sumH f k + f k
theorem sumH_congr {f g : Nat → Int} : ∀ {n : Nat}, (∀ i, i < n → f i = g i) → sumH f n = sumH g n
  | 0, _ => rfl
  | n + 1, h => by rw [sumH, sumH, sumH_congr (fun i hi => h i (by omega)), h n (by omega)]
theorem sumH_add (f g : Nat → Int) : ∀ n, sumH (fun i => f i + g i) n = sumH f n + sumH g n
  | 0 => rfl
  | n + 1 => by rw [sumH, sumH, sumH, sumH_add f g n]; omega
theorem sumH_neg (f : Nat → Int) : ∀ n, sumH (fun i => -f i) n = -sumH f n
  | 0 => rfl
  | n + 1 => by rw [sumH, sumH, sumH_neg f n]; omega
theorem sumH_zero : ∀ n, sumH (fun _ => 0) n = 0
  | 0 => rfl
  | n + 1 => by rw [sumH, sumH_zero n]; rfl
theorem sumH_swap (F : Nat → Nat → Int) (m : Nat) : ∀ n, sumH (fun i => sumH (F i) m) n = sumH (fun j => sumH (fun i => F i j) n) m
  | 0 => (sumH_zero m).symm
  | n + 1 => by
    rw [sumH, sumH_swap F m n, ← sumH_add]
    exact sumH_congr fun _ _ => rfl
theorem sumH_anti {F : Nat → Nat → Int} {n : Nat} (h : ∀ i j, i < n → j < n → F i j = -F j i) : sumH (fun i => sumH (F i) n) n = 0 := by
  have h1 := sumH_swap F n n
  have h2 : sumH (fun j => sumH (fun i => F i j) n) n = -sumH (fun i => sumH (F i) n) n := by
    rw [← sumH_neg]
    refine sumH_congr fun j hj => ?_
    rw [← sumH_neg]
    exact sumH_congr fun i hi => h i j hi hj
  omega
theorem acc_sum (am A h : Int) (lk xs : Nat → Int) : ∀ k, accI am A h lk xs k = am * (A - h) + sumH (fun j => lk j * (xs j - h)) k
  | 0 => by rw [accI, sumH, Int.add_zero]
  | k + 1 => by rw [accI, sumH, acc_sum am A h lk xs k, Int.add_assoc]
theorem sumH_range {f : Nat → Int} {lo hi : Int} : ∀ {n : Nat}, (∀ i, i < n → lo ≤ f i ∧ f i ≤ hi) → lo * n ≤ sumH f n ∧ sumH f n ≤ hi * n
  | 0, _ => by simp [sumH]
  | n + 1, h => by
    have h1 := sumH_range (n := n) (fun i hi => h i (by omega))
    have h2 := h n (by omega)
    rw [sumH, Int.natCast_add, Int.mul_add, Int.mul_add]
    exact ⟨by simp only [Int.natCast_one, Int.mul_one]; omega, by simp only [Int.natCast_one, Int.mul_one]; omega⟩
/-- The quotients' sum, by the sum. -/
theorem quot_sum (f : Nat → Int) : ∀ k, sumH f k - 65535 * k ≤ 65536 * sumH (fun i => f i / 65536) k ∧ 65536 * sumH (fun i => f i / 65536) k ≤ sumH f k
  | 0 => by simp [sumH]
  | k + 1 => by
    have := quot_sum f k
    rw [sumH, sumH]
    omega
theorem sumW_cold (am : Int) (lk : Nat → Int) : ∀ k, sumW 0 lk k = sumW am lk k - am
  | 0 => by rw [sumW, sumW]; omega
  | k + 1 => by rw [sumW, sumW, sumW_cold am lk k]; omega
theorem link_good {n : Nat} {g am : Nat → Int} {lk : Nat → Nat → Int} (G : GoodC n g am lk) {i : Nat} (hi : i < n) : ∀ k, k ≤ n → linkE lk i k (n - k) (sumW 0 (lk i) (n - k)) = 0
  | 0, _ => by
    have h1 := sumW_cold (am i) (lk i) n
    have h2 := G.sum i hi
    have h3 := G.a i hi
    rw [Nat.sub_zero, linkE, if_neg (by omega)]
  | k + 1, hk => by
    have hj : n - (k + 1) < n := by omega
    have h1 := G.l i (n - (k + 1)) hi hj
    have h2 := G.sym i (n - (k + 1)) hi hj
    have h3 := sum_le (am := 0) (lk := lk i) (n := n) (k := n - (k + 1)) (fun j hj => (G.l i j hi hj).1) (by omega)
    have h4 := sumW_cold (am i) (lk i) n
    have h5 := G.sum i hi
    have h6 := G.a i hi
    have e : n - k = n - (k + 1) + 1 := by omega
    have ih := link_good G hi k (by omega)
    rw [e, sumW] at ih
    rw [linkE, if_neg, if_neg, wr_id (by omega) (by omega)]
    · exact ih
    · rintro (h | ⟨h, h'⟩)
      · exact h h2
      · rw [← h] at h'
        exact h' (G.diag i hi)
    · simp [badS]
      omega
/-- Without the ambient's shares a configuration is accepted, too. -/
theorem chk_cold {n na nl : Nat} {g am : Nat → Int} {rl : Nat → Nat} {lk : Nat → Nat → Int} (h : hchk n na nl g am rl lk = 0) : hchk n n nl g (fun _ => 0) rl lk = 0 := by
  have G := good_of h
  have hN : ∀ i, i < n → nodeE n g (fun _ => 0) lk i = 0 := fun i hi => by
    have hg := G.g i hi
    rw [nodeE, if_neg]
    · have := link_good G hi n (Nat.le_refl _)
      rwa [Nat.sub_self] at this
    · simp [badS]
      omega
  have all : ∀ k i, i + k = n → nodesE n g (fun _ => 0) lk k i = 0 := by
    intro k
    induction k with
    | zero => intro i _; rfl
    | succ k ih =>
      intro i hi
      rw [nodesE, if_pos (hN i (by omega))]
      exact ih (i + 1) (by omega)
  obtain ⟨z1, z2, z3, z4, z5, z6⟩ := hchk_zero h
  have hl : lensB rl n n 0 = true := by
    unfold hchk at h
    rw [if_neg (by omega), if_neg (by omega), if_neg (by omega)] at h
    split at h
    · rename_i hl; exact hl
    · cases h
  rw [hchk, if_neg (by omega), if_neg (by omega), if_neg (by omega), if_pos hl]
  exact all n 0 (by omega)
/-- The sum after a tick without power and ambient. -/
theorem conserved {n : Nat} {g : Nat → Int} {lk : Nat → Nat → Int} (G : GoodC n g (fun _ => 0) lk) (hs : Nat → Int) (amb : Int) :
    sumH (fun i => stepR n g (fun _ => 0) lk hs (fun _ => 0) amb i) n ≤ sumH (fun i => hC (hs i)) n ∧ sumH (fun i => hC (hs i)) n - n < sumH (fun i => stepR n g (fun _ => 0) lk hs (fun _ => 0) amb i) n := by
  have hA := amb_range amb
  have e1 : sumH (fun i => stepR n g (fun _ => 0) lk hs (fun _ => 0) amb i) n = sumH (fun i => hC (hs i) + accI 0 (ambR amb) (hC (hs i)) (lk i) (fun j => hC (hs j)) n / 65536) n := by
    refine sumH_congr fun i hi => ?_
    obtain ⟨h1, h2, h3⟩ := step_val G (hs := hs) (ps := fun _ => 0) (amb := amb) hi (lo := -1099511627776) (hi' := 1099511627776) ⟨by omega, by omega⟩ (fun j _ => hC_range (hs j))
    rw [h1, show pC 0 = 0 from rfl, Int.mul_zero, Int.add_zero]
    unfold hC at *
    omega
  rw [e1, sumH_add]
  have e2 : sumH (fun i => accI 0 (ambR amb) (hC (hs i)) (lk i) (fun j => hC (hs j)) n) n = 0 := by
    refine (sumH_congr (g := fun i => sumH (fun j => lk i j * (hC (hs j) - hC (hs i))) n) fun i _ => ?_).trans (sumH_anti (F := fun i j => lk i j * (hC (hs j) - hC (hs i))) (n := n) fun i j hi hj => ?_)
    · rw [acc_sum, Int.zero_mul, Int.zero_add]
    · show lk i j * (hC (hs j) - hC (hs i)) = -(lk j i * (hC (hs i) - hC (hs j)))
      rw [G.sym i j hi hj, ← Int.mul_neg, Int.neg_sub]
  have h := quot_sum (fun i => accI 0 (ambR amb) (hC (hs i)) (lk i) (fun j => hC (hs j)) n) n
  rw [e2] at h
  have := G.pos
  constructor <;> omega
end
end Go.Proofs.Ytiofgjebbpnkiaa.Img
