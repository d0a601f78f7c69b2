/- The analysis of response times: definitions, and what holds of them. Conditions: none. -/
import Derived.Test.YtbhbjmneglkgnaaTskA
namespace Go.Proofs.Ytbhbjmneglkgnaa.Img
/-- How many of the first numbers have the property. -/
def cntP (p : Nat → Bool) : Nat → Nat
  | 0 => 0
  | k + 1 => cntP p k + (if p k = true then 1 else 0)
theorem cnt_le {p q : Nat → Bool} (h : ∀ k, p k = true → q k = true) : ∀ n, cntP p n ≤ cntP q n
  | 0 => Nat.le_refl _
  | n + 1 => by
    have ih := cnt_le h n
    simp only [cntP]
    by_cases e : p n = true
    · rw [if_pos e, if_pos (h n e)]; omega
    · rw [if_neg e]; omega
theorem cnt_lt {p q : Nat → Bool} (h : ∀ k, p k = true → q k = true) {k0 : Nat} (h1 : p k0 = false) (h2 : q k0 = true) : ∀ n, k0 < n → cntP p n < cntP q n
  | 0, hn => by omega
  | n + 1, hn => by
    simp only [cntP]
    by_cases e0 : k0 = n
    · subst e0
      have := cnt_le h k0
      rw [if_neg (by rw [h1]; decide), if_pos h2]
      omega
    · have ih := cnt_lt h h1 h2 n (by omega)
      by_cases e : p n = true
      · rw [if_pos e, if_pos (h n e)]; omega
      · rw [if_neg e]; omega
theorem cnt_bd (p : Nat → Bool) : ∀ n, cntP p n ≤ n
  | 0 => Nat.le_refl _
  | n + 1 => by
    have := cnt_bd p n
    simp only [cntP]
    split <;> omega
theorem cnt_zero {p : Nat → Bool} : ∀ {n}, cntP p n = 0 → ∀ k, k < n → p k = false
  | 0, _, k, hk => by omega
  | n + 1, h, k, hk => by
    simp only [cntP] at h
    by_cases e : k = n
    · subst e
      cases hp : p k
      · rfl
      · rw [hp] at h; simp at h
    · exact cnt_zero (n := n) (by omega) k (by omega)
theorem zero_cnt {p : Nat → Bool} : ∀ {n}, (∀ k, k < n → p k = false) → cntP p n = 0
  | 0, _ => rfl
  | n + 1, h => by
    simp only [cntP]
    rw [zero_cnt (n := n) fun k hk => h k (by omega), h n (by omega)]
    rfl

/-- The order of the deadlines. -/
def befD (x : Tsk) (i k : Nat) : Bool := decide (x.d k < x.d i ∨ x.d k = x.d i ∧ k < i)
def asgI (x : Tsk) (n i : Nat) : Tsk := { x with q := fun a => if a < i then (cntP (befD x a) n : Int) else x.q a }
def asg (x : Tsk) (n : Nat) : Tsk := asgI x n n
theorem bef_trans {x : Tsk} {i j k : Nat} (h : befD x j i = true) (h2 : befD x i k = true) : befD x j k = true := by
  simp only [befD, decide_eq_true_eq] at *
  omega
theorem rank_lt {x : Tsk} {n i j : Nat} (hi : i < n) (h : befD x j i = true) : cntP (befD x i) n < cntP (befD x j) n :=
  cnt_lt (p := befD x i) (q := befD x j) (fun k hk => bef_trans h hk) (k0 := i) (by simp [befD]) h n hi
theorem asg_ok {x : Tsk} {n : Nat} (h : TskOK x n) : TskOK (asg x n) n := by
  refine ⟨h.le, h.p, h.o, h.c, h.d, fun i k hi hk => ?_⟩
  show (if k < n then (cntP (befD x k) n : Int) else x.q k) ≠ (if i < n then (cntP (befD x i) n : Int) else x.q i)
  rw [if_pos (by omega), if_pos hi]
  have : befD x i k = true ∨ befD x k i = true := by
    simp only [befD, decide_eq_true_eq]
    omega
  rcases this with e | e
  · have := rank_lt (n := n) (show k < n by omega) e
    omega
  · have := rank_lt (n := n) hi e
    omega

/-- The demand of a task and the more urgent ones within a time. -/
def demW (x : Tsk) (i : Nat) (r : Int) : Nat → Int
  | 0 => x.c i
  | k + 1 => demW x i r k + (if x.q k < x.q i then (r + x.p k - 1).tdiv (x.p k) * x.c k else 0)
def wI (x : Tsk) (n i : Nat) : Nat → Int → Int
  | 0, _ => 0
  | f + 1, r => if x.p i < demW x i r n then 0 else if demW x i r n = r then r else wI x n i f (demW x i r n)
def worstF (x : Tsk) (n i : Nat) : Int := wI x n i 4097 (x.c i)
theorem tdiv_bd {a b : Int} (hb : 1 ≤ b) (ha : 0 ≤ a) : 0 ≤ a.tdiv b ∧ a.tdiv b ≤ a := by
  rw [Int.tdiv_eq_ediv_of_nonneg ha]
  refine ⟨Int.ediv_nonneg ha (by omega), Int.ediv_le_self _ ha⟩
theorem tdiv_mono {a b c : Int} (hc : 1 ≤ c) (ha : 0 ≤ a) (h : a ≤ b) : a.tdiv c ≤ b.tdiv c := by
  rw [Int.tdiv_eq_ediv_of_nonneg ha, Int.tdiv_eq_ediv_of_nonneg (by omega)]
  exact Int.ediv_le_ediv (by omega) h
theorem dem_mono {x : Tsk} {n i : Nat} {r r' : Int} (h : TskOK x n) (h0 : 0 ≤ r) (hr : r ≤ r') : ∀ k, k ≤ n → demW x i r k ≤ demW x i r' k
  | 0, _ => Int.le_refl _
  | k + 1, hk => by
    have ih := dem_mono (i := i) h h0 hr k (by omega)
    simp only [demW]
    have hp := h.p k (by omega)
    have hc := h.c k (by omega)
    split
    · have := tdiv_mono (a := r + x.p k - 1) (b := r' + x.p k - 1) hp.1 (by omega) (by omega)
      have := Int.mul_le_mul_of_nonneg_right this (show 0 ≤ x.c k by omega)
      omega
    · omega
theorem dem_bd {x : Tsk} {n i : Nat} {r : Int} (h : TskOK x n) (hi : i < n) (h0 : 0 ≤ r) (h1 : r ≤ 4096) : ∀ k : Nat, k ≤ n → x.c i ≤ demW x i r k ∧ demW x i r k ≤ 4096 + 33550336 * (k : Int)
  | 0, _ => by
    have := h.c i hi
    have := h.d i hi
    have := h.p i hi
    exact ⟨Int.le_refl _, by show x.c i ≤ _; omega⟩
  | k + 1, hk => by
    have ih := dem_bd h hi h0 h1 k (by omega)
    simp only [demW]
    have hp := h.p k (by omega)
    have hc := h.c k (by omega)
    have hd := h.d k (by omega)
    split
    · have hb := tdiv_bd (a := r + x.p k - 1) hp.1 (by omega)
      have h2 : 0 ≤ (r + x.p k - 1).tdiv (x.p k) * x.c k := Int.mul_nonneg hb.1 (by omega)
      have h3 : (r + x.p k - 1).tdiv (x.p k) * x.c k ≤ 8191 * 4096 := Int.mul_le_mul (by omega) (by omega) (by omega) (by omega)
      omega
    · omega
/-- What the number returned is. -/
theorem wI_fix {x : Tsk} {n i : Nat} (hp : 0 ≤ x.p i) : ∀ (f : Nat) (r : Int), 0 < wI x n i f r → demW x i (wI x n i f r) n = wI x n i f r ∧ wI x n i f r ≤ x.p i
  | 0, r, h => by simp [wI] at h
  | f + 1, r, h => by
    simp only [wI] at h ⊢
    by_cases h1 : x.p i < demW x i r n
    · rw [if_pos h1] at h; omega
    · rw [if_neg h1] at h ⊢
      by_cases h2 : demW x i r n = r
      · rw [if_pos h2] at h ⊢
        exact ⟨h2, by omega⟩
      · rw [if_neg h2] at h ⊢
        exact wI_fix hp f _ h
theorem wI_least {x : Tsk} {n i : Nat} (hx : TskOK x n) (hi : i < n) {y : Int} (hy : demW x i y n = y) : ∀ (f : Nat) (r : Int), 0 ≤ r → r ≤ 4096 → r ≤ y → 0 < wI x n i f r → wI x n i f r ≤ y
  | 0, r, _, _, _, h => by simp [wI] at h
  | f + 1, r, h0, h4, hr, h => by
    simp only [wI] at h ⊢
    by_cases h1 : x.p i < demW x i r n
    · rw [if_pos h1] at h; omega
    · rw [if_neg h1] at h ⊢
      by_cases h2 : demW x i r n = r
      · rw [if_pos h2]; exact hr
      · rw [if_neg h2] at h ⊢
        have hp := hx.p i hi
        have hc := hx.c i hi
        have hb := dem_bd hx hi h0 h4 n (Nat.le_refl _)
        have := dem_mono (i := i) hx h0 hr n (Nat.le_refl _)
        exact wI_least hx hi hy f _ (by omega) (by omega) (by omega) h
theorem worst_fix {x : Tsk} {n i : Nat} (hx : TskOK x n) (hi : i < n) (h : 0 < worstF x n i) : demW x i (worstF x n i) n = worstF x n i ∧ worstF x n i ≤ x.p i := by
  have := hx.p i hi
  exact wI_fix (by omega) _ _ h
theorem worst_least {x : Tsk} {n i : Nat} (hx : TskOK x n) (hi : i < n) (h : 0 < worstF x n i) {y : Int} (h0 : 0 ≤ y) (h4 : y ≤ 4096) (hy : demW x i y n = y) : worstF x n i ≤ y := by
  have hc := hx.c i hi
  have hd := hx.d i hi
  have hp := hx.p i hi
  have hb := dem_bd hx hi h0 h4 n (Nat.le_refl _)
  exact wI_least hx hi hy _ _ (by omega) (by omega) (by omega) h

def missB (x : Tsk) (n i : Nat) : Bool := decide (worstF x n i = 0 ∨ x.d i < worstF x n i)
/-- Do the tasks meet their deadlines? -/
def meetB (x : Tsk) (n : Nat) : Bool := decide (cntP (missB x n) n = 0)

theorem inn_jobs {x : Tsk} {n t : Nat} {s : Sim} (h : ∀ j, j < s.jn → 0 ≤ s.jt j ∧ s.jt j < n ∧ 0 ≤ s.jr j ∧ s.jr j ≤ t) : ∀ i, i ≤ n → ∀ j, j < (inn x t s i).1.jn → 0 ≤ (inn x t s i).1.jt j ∧ (inn x t s i).1.jt j < n ∧ 0 ≤ (inn x t s i).1.jr j ∧ (inn x t s i).1.jr j ≤ t
  | 0, _, j, hj => h j hj
  | i + 1, hi, j, hj => by
    have ih := inn_jobs (x := x) h i (by omega)
    have hj : j < (relS x t i (inn x t s i).1).jn := hj
    show 0 ≤ (relS x t i (inn x t s i).1).jt j ∧ (relS x t i (inn x t s i).1).jt j < n ∧ 0 ≤ (relS x t i (inn x t s i).1).jr j ∧ (relS x t i (inn x t s i).1).jr j ≤ t
    unfold relS at hj ⊢
    split
    · rename_i hd
      rw [if_pos hd] at hj
      have hj : j < (inn x t s i).1.jn + 1 := hj
      show 0 ≤ fup (inn x t s i).1.jt (inn x t s i).1.jn i j ∧ fup (inn x t s i).1.jt (inn x t s i).1.jn i j < n ∧ 0 ≤ fup (inn x t s i).1.jr (inn x t s i).1.jn t j ∧ fup (inn x t s i).1.jr (inn x t s i).1.jn t j ≤ t
      by_cases e : j = (inn x t s i).1.jn
      · subst e
        rw [fup_self, fup_self]
        omega
      · rw [fup_ne e, fup_ne e]
        exact ih j (by omega)
    · rename_i hd
      rw [if_neg hd] at hj
      exact ih j hj
theorem sim_jobs {x : Tsk} {n : Nat} : ∀ t : Nat, ∀ j, j < (simS x n t).jn → 0 ≤ (simS x n t).jt j ∧ (simS x n t).jt j < n ∧ 0 ≤ (simS x n t).jr j ∧ (simS x n t).jr j ≤ t
  | 0, j, hj => absurd hj (by show ¬ j < 0; omega)
  | t + 1, j, hj => by
    have ih := inn_jobs (x := x) (t := t) (sim_jobs (x := x) (n := n) t) n (Nat.le_refl _) j
    have hj : j < (excS x t (inn x t (simS x n t) n)).jn := hj
    show 0 ≤ (excS x t (inn x t (simS x n t) n)).jt j ∧ (excS x t (inn x t (simS x n t) n)).jt j < n ∧ 0 ≤ (excS x t (inn x t (simS x n t) n)).jr j ∧ (excS x t (inn x t (simS x n t) n)).jr j ≤ _
    unfold excS at hj ⊢
    split
    · rename_i hd
      rw [if_pos hd] at hj
      have := ih hj
      omega
    · rename_i hd
      rw [if_neg hd] at hj
      have := ih hj
      show 0 ≤ (inn x t (simS x n t) n).1.jt j ∧ (inn x t (simS x n t) n).1.jt j < n ∧ 0 ≤ (inn x t (simS x n t) n).1.jr j ∧ (inn x t (simS x n t) n).1.jr j ≤ _
      omega
def lateB (x : Tsk) (s : Sim) (U : Int) (j : Nat) : Bool := decide (s.jr j + x.d (s.jt j).toNat < s.jf j ∨ s.jf j < 0 ∧ s.jr j + x.d (s.jt j).toNat ≤ U)
/-- The specification's check. -/
def badT (x : Tsk) (i : Nat) : Bool := decide (x.p i < 1 ∨ 4096 < x.p i ∨ x.o i < 0 ∨ x.p i ≤ x.o i ∨ x.c i < 1 ∨ x.d i < x.c i ∨ x.p i < x.d i)
def twiB (x : Tsk) (i k : Nat) : Bool := decide (x.q k = x.q i)
def chkI (x : Tsk) : Nat → Nat → Int
  | 0, _ => 0
  | f + 1, i => if badT x i = true then 3 else if 0 < cntP (twiB x i) i then 6 else chkI x f (i + 1)
def chkT (x : Tsk) (n : Nat) : Int := if 8 < n then 4 else chkI x n 0
theorem chkI_zero {x : Tsk} : ∀ (f i : Nat), chkI x f i = 0 → ∀ k, i ≤ k → k < i + f → badT x k = false ∧ ∀ j, j < k → x.q j ≠ x.q k
  | 0, i, _, k, h1, h2 => by omega
  | f + 1, i, h, k, h1, h2 => by
    simp only [chkI] at h
    by_cases e1 : badT x i = true
    · rw [if_pos e1] at h; omega
    · rw [if_neg e1] at h
      by_cases e2 : 0 < cntP (twiB x i) i
      · rw [if_pos e2] at h; omega
      · rw [if_neg e2] at h
        by_cases e : k = i
        · subst e
          refine ⟨by simpa using e1, fun j hj => ?_⟩
          have := cnt_zero (p := twiB x k) (n := k) (by omega) j hj
          simpa [twiB] using this
        · exact chkI_zero f (i + 1) h k (by omega) (by omega)
theorem chkT_zero {x : Tsk} {n : Nat} (h : chkT x n = 0) : TskOK x n := by
  unfold chkT at h
  by_cases e : 8 < n
  · rw [if_pos e] at h; omega
  · rw [if_neg e] at h
    have key := chkI_zero n 0 h
    have kb : ∀ i, i < n → 1 ≤ x.p i ∧ x.p i ≤ 4096 ∧ 0 ≤ x.o i ∧ x.o i < x.p i ∧ 1 ≤ x.c i ∧ x.c i ≤ x.d i ∧ x.d i ≤ x.p i := fun i hi => by
      have := (key i (by omega) (by omega)).1
      simp only [badT, decide_eq_false_iff_not] at this
      omega
    refine ⟨by omega, fun i hi => ?_, fun i hi => ?_, fun i hi => ?_, fun i hi => ?_, fun i k hi hk => (key i (by omega) (by omega)).2 k hk⟩
    all_goals have := kb i hi; omega
end Go.Proofs.Ytbhbjmneglkgnaa.Img
