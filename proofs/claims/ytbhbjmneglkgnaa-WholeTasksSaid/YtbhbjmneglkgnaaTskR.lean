/- The analysis of response times agrees with the simulation. Conditions: none. -/
import Derived.Test.YtbhbjmneglkgnaaTskQ
namespace Go.Proofs.Ytbhbjmneglkgnaa.Img
section
variable {x : Tsk} {n : Nat}
theorem dem_nat (hx : TskOK x n) {i : Nat} (hi : i < n) (r : Nat) : ∀ k, k ≤ n → demW x i (r : Int) k = ((cN x i + sumH (hpB x.q i) (fun j => ceilC (pN x j) r * cN x j) k : Nat) : Int)
  | 0, _ => by
    have := hx.c i hi
    show x.c i = _
    simp only [sumH]
    unfold cN; omega
  | k + 1, hk => by
    have ih := dem_nat hx hi r k (by omega)
    have hp := hx.p k (by omega)
    have hc := hx.c k (by omega)
    simp only [demW, sumH, ih]
    have hb : hpB x.q i k = decide (x.q k < x.q i) := rfl
    by_cases e : x.q k < x.q i
    · rw [if_pos e, if_pos (by rw [hb]; simpa using e)]
      have e1 : (r : Int) + x.p k - 1 = ((r + pN x k - 1 : Nat) : Int) := by unfold pN; omega
      have e2 : x.p k = (pN x k : Int) := by unfold pN; omega
      have e3 : x.c k = (cN x k : Int) := by unfold cN; omega
      rw [e1, e3]
      have e4 : ((r + pN x k - 1 : Nat) : Int).tdiv (x.p k) = ((ceilC (pN x k) r : Nat) : Int) := by rw [e2]; rfl
      rw [e4]
      simp only [Int.natCast_add, Int.natCast_mul]
      omega
    · rw [if_neg e, if_neg (by rw [hb]; simpa using e)]
      simp only [Int.natCast_add]
      omega
/-- The number returned solves the equation. -/
theorem worst_nat (hx : TskOK x n) {i : Nat} (hi : i < n) (h : 0 < worstF x n i) : cN x i + dem n (pN x) (cN x) x.q i (worstF x n i).toNat = (worstF x n i).toNat ∧ (worstF x n i).toNat ≤ pN x i := by
  obtain ⟨h1, h2⟩ := worst_fix hx hi h
  have e : worstF x n i = (((worstF x n i).toNat : Nat) : Int) := by omega
  have := dem_nat hx hi (worstF x n i).toNat n (Nat.le_refl _)
  rw [← e, h1] at this
  refine ⟨?_, by unfold pN; omega⟩
  unfold dem
  omega
theorem job_end (hx : TskOK x n) {i : Nat} (hi : i < n) (h : 0 < worstF x n i) (m : Nat) : cN x i * (m + 1) ≤ exe x n i (oN x i + m * pN x i + (worstF x n i).toNat) := by
  obtain ⟨h1, h2⟩ := worst_nat hx hi h
  exact (sim_fluid hx).bound hi h1 h2 m
theorem exe_mono (hx : TskOK x n) {i t t' : Nat} (h : t ≤ t') : exe x n i t ≤ exe x n i t' := (sim_fluid hx).mono' h
/-- No job takes longer than the worst case. -/
theorem job_bd (hx : TskOK x n) {u j : Nat} (hj : j < (simS x n u).jn) (hw : 0 < worstF x n ((simS x n u).jt j).toNat) (hf : 0 ≤ (simS x n u).jf j) :
    (simS x n u).jf j - (simS x n u).jr j ≤ worstF x n ((simS x n u).jt j).toNat := by
  obtain ⟨i, m, h1, h2, h3, h4, h5⟩ := (sim_inv hx u).j j hj
  rw [h2] at hw ⊢
  rw [show ((i : Int)).toNat = i by omega] at hw ⊢
  rcases h5 with ⟨_, f, q1, q2, q3, q4⟩ | ⟨_, q, _⟩
  · have hb := job_end hx h1 hw m
    have : f < oN x i + m * pN x i + (worstF x n i).toNat := by
      refine Nat.not_le.1 fun hle => ?_
      have := exe_mono hx (i := i) hle
      omega
    rw [q1, h3]
    omega
  · omega
/-- Tasks that meet their deadlines leave no job late. -/
theorem late_no (hx : TskOK x n) (hm : meetB x n = true) (u : Nat) : cntP (lateB x (simS x n u) u) (simS x n u).jn = 0 := by
  have hz : cntP (missB x n) n = 0 := by simpa [meetB] using hm
  refine zero_cnt fun j hj => ?_
  unfold lateB
  rw [decide_eq_false_iff_not]
  obtain ⟨i, m, h1, h2, h3, h4, h5⟩ := (sim_inv hx u).j j hj
  have hmi := cnt_zero hz i h1
  have hge : 0 ≤ worstF x n i := by
    have : ∀ f r, 0 ≤ r → r ≤ 4096 → 0 ≤ wI x n i f r := by
      intro f
      induction f with
      | zero => exact fun _ _ _ => Int.le_refl _
      | succ f ih =>
        intro r h0 h4
        have hb := dem_bd hx h1 h0 h4 n (Nat.le_refl _)
        have hc := hx.c i h1
        have hp := hx.p i h1
        simp only [wI]
        split
        · exact Int.le_refl _
        · split
          · exact h0
          · exact ih _ (by omega) (by omega)
    have hc := hx.c i h1
    have hd := hx.d i h1
    have hp := hx.p i h1
    exact this _ _ (by omega) (by omega)
  unfold missB at hmi
  rw [decide_eq_false_iff_not] at hmi
  have hw : 0 < worstF x n i ∧ worstF x n i ≤ x.d i := by omega
  have hb := job_end hx h1 hw.1 m
  rw [h2, show ((i : Int)).toNat = i by omega, h3]
  rcases h5 with ⟨_, f, q1, q2, q3, q4⟩ | ⟨q1, q, _⟩
  · have : f < oN x i + m * pN x i + (worstF x n i).toNat := by
      refine Nat.not_le.1 fun hle => ?_
      have := exe_mono hx (i := i) hle
      omega
    rw [q1]
    omega
  · have hC : 0 < cN x i := by have := hx.c i h1; unfold cN; omega
    have : exe x n i u < cN x i * (m + 1) := by
      have hdm := Nat.div_add_mod (exe x n i u) (cN x i)
      have hml := Nat.mod_lt (exe x n i u) hC
      have : cN x i * (exe x n i u / cN x i) ≤ cN x i * m := Nat.mul_le_mul_left _ q1
      rw [Nat.mul_succ]
      omega
    have hlt : u < oN x i + m * pN x i + (worstF x n i).toNat := by
      refine Nat.not_le.1 fun hle => ?_
      have := exe_mono hx (i := i) hle
      omega
    rw [q]
    omega

/-- The tasks without offsets. -/
def noO (x : Tsk) (i : Nat) : Tsk := { x with o := fun a => if a < i then 0 else x.o a }
theorem noO_ok (hx : TskOK x n) : TskOK (noO x n) n := by
  refine ⟨hx.le, hx.p, fun i hi => ?_, hx.c, hx.d, hx.q⟩
  have := hx.p i hi
  show 0 ≤ (if i < n then (0 : Int) else x.o i) ∧ (if i < n then (0 : Int) else x.o i) < x.p i
  rw [if_pos hi]; omega
theorem dem_noO {a i : Nat} {r : Int} : ∀ k, demW (noO x a) i r k = demW x i r k
  | 0 => rfl
  | k + 1 => by simp only [demW, dem_noO k]; rfl
theorem wI_noO {a i : Nat} : ∀ f r, wI (noO x a) n i f r = wI x n i f r
  | 0, _ => rfl
  | f + 1, r => by simp only [wI, dem_noO, wI_noO f]; rfl
theorem worst_noO {a i : Nat} : worstF (noO x a) n i = worstF x n i := wI_noO _ _

theorem inn_keep {t : Nat} {s : Sim} : ∀ k, s.jn ≤ (inn x t s k).1.jn ∧ ∀ j, j < s.jn → (inn x t s k).1.jt j = s.jt j ∧ (inn x t s k).1.jr j = s.jr j
  | 0 => ⟨Nat.le_refl _, fun _ _ => ⟨rfl, rfl⟩⟩
  | k + 1 => by
    obtain ⟨h1, h2⟩ := inn_keep (t := t) (s := s) k
    show s.jn ≤ (relS x t k (inn x t s k).1).jn ∧ ∀ j, j < s.jn → (relS x t k (inn x t s k).1).jt j = s.jt j ∧ (relS x t k (inn x t s k).1).jr j = s.jr j
    unfold relS
    split
    · refine ⟨Nat.le_succ_of_le h1, fun j hj => ?_⟩
      show fup _ _ _ j = _ ∧ fup _ _ _ j = _
      rw [fup_ne (by omega), fup_ne (by omega)]
      exact h2 j hj
    · exact ⟨h1, h2⟩
theorem sim_keep {t : Nat} : (simS x n t).jn ≤ (simS x n (t + 1)).jn ∧ ∀ j, j < (simS x n t).jn → (simS x n (t + 1)).jt j = (simS x n t).jt j ∧ (simS x n (t + 1)).jr j = (simS x n t).jr j := by
  have := inn_keep (x := x) (t := t) (s := simS x n t) n
  show (simS x n t).jn ≤ (excS x t (inn x t (simS x n t) n)).jn ∧ ∀ j, j < (simS x n t).jn → (excS x t (inn x t (simS x n t) n)).jt j = _ ∧ (excS x t (inn x t (simS x n t) n)).jr j = _
  unfold excS
  split
  · exact this
  · exact this
theorem inn_first (ho : ∀ i, i < n → x.o i = 0) : ∀ k, k ≤ n → (inn x 0 sim0 k).1.jn = k ∧ ∀ j, j < k → (inn x 0 sim0 k).1.jt j = j ∧ (inn x 0 sim0 k).1.jr j = 0
  | 0, _ => ⟨rfl, fun j hj => by omega⟩
  | k + 1, hk => by
    obtain ⟨h1, h2⟩ := inn_first ho k (by omega)
    have hd : due x 0 k := ⟨by rw [ho k (by omega)]; exact Int.le_refl _, by rw [ho k (by omega)]; exact Int.zero_tmod _⟩
    show (relS x 0 k (inn x 0 sim0 k).1).jn = k + 1 ∧ ∀ j, j < k + 1 → (relS x 0 k (inn x 0 sim0 k).1).jt j = j ∧ (relS x 0 k (inn x 0 sim0 k).1).jr j = 0
    unfold relS
    rw [if_pos hd]
    refine ⟨by show (inn x 0 sim0 k).1.jn + 1 = _; rw [h1], fun j hj => ?_⟩
    show fup _ (inn x 0 sim0 k).1.jn _ j = _ ∧ fup _ (inn x 0 sim0 k).1.jn _ j = _
    rw [h1]
    by_cases e : j = k
    · subst e; rw [fup_self, fup_self]; exact ⟨rfl, rfl⟩
    · rw [fup_ne e, fup_ne e]; exact h2 j (by omega)
/-- Without offsets the first jobs are one of each task. -/
theorem first_jobs (ho : ∀ i, i < n → x.o i = 0) : ∀ u : Nat, n ≤ (simS x n (u + 1)).jn ∧ ∀ j, j < n → (simS x n (u + 1)).jt j = j ∧ (simS x n (u + 1)).jr j = 0
  | 0 => by
    obtain ⟨h1, h2⟩ := inn_first ho n (Nat.le_refl _)
    show n ≤ (excS x 0 (inn x 0 sim0 n)).jn ∧ ∀ j, j < n → (excS x 0 (inn x 0 sim0 n)).jt j = j ∧ (excS x 0 (inn x 0 sim0 n)).jr j = 0
    unfold excS
    split
    · exact ⟨Nat.le_of_eq h1.symm, h2⟩
    · exact ⟨Nat.le_of_eq h1.symm, h2⟩
  | u + 1 => by
    obtain ⟨h1, h2⟩ := first_jobs ho u
    obtain ⟨k1, k2⟩ := sim_keep (x := x) (n := n) (t := u + 1)
    refine ⟨Nat.le_trans h1 k1, fun j hj => ?_⟩
    obtain ⟨e1, e2⟩ := k2 j (by omega)
    obtain ⟨e3, e4⟩ := h2 j hj
    exact ⟨e1.trans e3, e2.trans e4⟩
/-- And they take exactly the worst case. -/
theorem first_fin (hx : TskOK x n) (ho : ∀ i, i < n → x.o i = 0) {u i : Nat} (hu : 0 < u) (hi : i < n) (hw : 0 < worstF x n i) (hwu : worstF x n i ≤ u) : (simS x n u).jf i = worstF x n i := by
  obtain ⟨v, rfl⟩ : ∃ v, u = v + 1 := ⟨u - 1, by omega⟩
  obtain ⟨h1, h2⟩ := first_jobs ho v
  obtain ⟨e1, e2⟩ := h2 i hi
  obtain ⟨i', m, q1, q2, q3, q4, q5⟩ := (sim_inv hx (v + 1)).j i (by omega)
  have : i' = i := by omega
  subst this
  have hp := hx.p i' hi
  have hC : 0 < cN x i' := by have := hx.c i' hi; unfold cN; omega
  have hP : 0 < pN x i' := by unfold pN; omega
  have hoN : ∀ k, k < n → oN x k = 0 := fun k hk => by unfold oN; rw [ho k hk]; rfl
  have hm : m = 0 := by
    rw [e2] at q3
    have : m * pN x i' = 0 := by omega
    rcases Nat.mul_eq_zero.1 this with h | h
    · exact h
    · omega
  subst hm
  have hb := job_end hx hi hw 0
  rw [hoN i' hi, Nat.zero_mul, Nat.zero_add, Nat.zero_add, Nat.mul_one] at hb
  rw [Nat.zero_add, Nat.mul_one] at q5
  rcases q5 with ⟨_, f, y1, y2, y3, y4⟩ | ⟨y1, y2, y3⟩
  · have hf := (sim_fluid hx).first hi hoN y3 y4
    have hlt : f < (worstF x n i').toNat := by
      refine Nat.not_le.1 fun hle => ?_
      have := exe_mono hx (i := i') hle
      omega
    obtain ⟨g1, g2⟩ := worst_fix hx hi hw
    have hd := dem_nat hx hi (f + 1) n (Nat.le_refl _)
    unfold dem at hf
    have hl := worst_least hx hi hw (y := ((f + 1 : Nat) : Int)) (by omega) (by omega) (by rw [hd]; omega)
    rw [y1]
    omega
  · exfalso
    have hdm := Nat.div_add_mod (exe x n i' (v + 1)) (cN x i')
    have hml := Nat.mod_lt (exe x n i' (v + 1)) hC
    have h0 : exe x n i' (v + 1) / cN x i' = 0 := Nat.le_zero.1 y1
    rw [h0, Nat.mul_zero] at hdm
    have := exe_mono hx (i := i') (show (worstF x n i').toNat ≤ v + 1 by omega)
    omega
end
end Go.Proofs.Ytbhbjmneglkgnaa.Img
