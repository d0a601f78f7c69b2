/- Work that is done by priorities: the response time bounds every job; the first job meets it exactly. Conditions: none. -/
namespace Go.Proofs.Ytbhbjmneglkgnaa.Img
/-- How many jobs are released before a time. -/
def relC (p o t : Nat) : Nat := (t - o + p - 1) / p
def ceilC (p r : Nat) : Nat := (r + p - 1) / p
theorem relC_sub {p o t r : Nat} (hp : 0 < p) : relC p o (t + r) ≤ relC p o t + ceilC p r := by
  unfold relC ceilC
  have hA : t - o + p - 1 < p * ((t - o + p - 1) / p + 1) := Nat.lt_mul_div_succ _ hp
  have hB : r + p - 1 < p * ((r + p - 1) / p + 1) := Nat.lt_mul_div_succ _ hp
  generalize (t - o + p - 1) / p = A at *
  generalize (r + p - 1) / p = B at *
  have h : t + r - o + p - 1 < (A + B + 1) * p := by
    have e1 : (A + B + 1) * p = p * A + p * B + p := by rw [Nat.add_mul, Nat.add_mul, Nat.mul_comm A, Nat.mul_comm B, Nat.one_mul]
    rw [Nat.mul_add, Nat.mul_one] at hA hB
    rw [e1]; omega
  exact Nat.le_of_lt_succ (Nat.div_lt_of_lt_mul (by rw [Nat.mul_comm]; exact h))
theorem relC_mono {p o t t' : Nat} (h : t ≤ t') : relC p o t ≤ relC p o t' := Nat.div_le_div_right (by omega)
theorem relC_at {p o m : Nat} (hp : 0 < p) : relC p o (o + m * p) = m := by
  unfold relC
  rw [show o + m * p - o + p - 1 = (p - 1) + m * p by omega, Nat.add_mul_div_right _ _ hp, Nat.div_eq_of_lt (by omega)]
  omega
theorem relC_next {p o m : Nat} (hp : 0 < p) : relC p o (o + m * p + 1) = m + 1 := by
  unfold relC
  rw [show o + m * p + 1 - o + p - 1 = (m + 1) * p by rw [Nat.add_mul]; omega, Nat.mul_div_cancel _ hp]
theorem ceil_rel {p t : Nat} : relC p 0 t = ceilC p t := rfl

/-- The sum over the more urgent tasks. -/
def sumH (h : Nat → Bool) (g : Nat → Nat) : Nat → Nat
  | 0 => 0
  | k + 1 => sumH h g k + (if h k = true then g k else 0)
theorem sumH_mono {h : Nat → Bool} {g g' : Nat → Nat} : ∀ {n}, (∀ k, k < n → h k = true → g k ≤ g' k) → sumH h g n ≤ sumH h g' n
  | 0, _ => Nat.le_refl _
  | n + 1, hg => by
    have ih := sumH_mono (h := h) (g := g) (g' := g') (n := n) fun k hk => hg k (by omega)
    simp only [sumH]
    by_cases e : h n = true
    · have := hg n (by omega) e
      rw [if_pos e, if_pos e]; omega
    · rw [if_neg e, if_neg e]; omega
theorem sumH_add {h : Nat → Bool} {g g' : Nat → Nat} : ∀ n, sumH h (fun k => g k + g' k) n = sumH h g n + sumH h g' n
  | 0 => rfl
  | n + 1 => by
    simp only [sumH, sumH_add n]
    by_cases e : h n = true
    · rw [if_pos e, if_pos e, if_pos e]; omega
    · rw [if_neg e, if_neg e, if_neg e]; omega
theorem sumH_one {h : Nat → Bool} {a : Nat} : ∀ n, sumH h (fun k => if k = a then 1 else 0) n = if a < n ∧ h a = true then 1 else 0
  | 0 => by simp [sumH]
  | n + 1 => by
    simp only [sumH, sumH_one n]
    by_cases e : n = a
    · subst e
      by_cases e2 : h n = true
      · simp [e2]
      · simp [e2]
    · have : (if h n = true then (if n = a then 1 else 0) else 0) = 0 := by
        rw [if_neg e]; split <;> rfl
      rw [this]
      by_cases e2 : a < n ∧ h a = true
      · rw [if_pos e2, if_pos ⟨by omega, e2.2⟩]
      · rw [if_neg e2, if_neg (fun q => e2 ⟨by omega, q.2⟩)]
theorem sumH_eq {h : Nat → Bool} {g g' : Nat → Nat} {n : Nat} (he : ∀ k, k < n → h k = true → g k = g' k) : sumH h g n = sumH h g' n :=
  Nat.le_antisymm (sumH_mono fun k hk hh => Nat.le_of_eq (he k hk hh)) (sumH_mono fun k hk hh => Nat.le_of_eq (he k hk hh).symm)
theorem sumH_zero {h : Nat → Bool} : ∀ n, sumH h (fun _ => 0) n = 0
  | 0 => rfl
  | n + 1 => by simp [sumH, sumH_zero n]

/-- Tasks, and what has been worked for each until a time. -/
structure Fluid (n : Nat) (p o c : Nat → Nat) (q : Nat → Int) (E : Nat → Nat → Nat) (R : Nat → Int) : Prop where
  p0 : ∀ i, i < n → 0 < p i
  c0 : ∀ i, i < n → 0 < c i
  inj : ∀ i k, i < n → k < n → q i = q k → i = k
  e0 : ∀ i, E i 0 = 0
  e1 : ∀ i t, E i (t + 1) = E i t + (if R t = (i : Int) then 1 else 0)
  le : ∀ i t, i < n → E i t ≤ c i * relC (p i) (o i) t
  rng : ∀ t, R t < n
  run : ∀ t, 0 ≤ R t → E (R t).toNat t < c (R t).toNat * relC (p (R t).toNat) (o (R t).toNat) (t + 1) ∧ ∀ i, i < n → E i t < c i * relC (p i) (o i) (t + 1) → q (R t).toNat ≤ q i
  idle : ∀ t, R t < 0 → ∀ i, i < n → ¬ E i t < c i * relC (p i) (o i) (t + 1)

section
variable {n : Nat} {p o c : Nat → Nat} {q : Nat → Int} {E : Nat → Nat → Nat} {R : Nat → Int}
theorem Fluid.mono1 (F : Fluid n p o c q E R) (i t : Nat) : E i t ≤ E i (t + 1) := by rw [F.e1]; omega
theorem Fluid.mono (F : Fluid n p o c q E R) (i t : Nat) : ∀ k, E i t ≤ E i (t + k)
  | 0 => Nat.le_refl _
  | k + 1 => Nat.le_trans (F.mono i t k) (F.mono1 i (t + k))
theorem Fluid.mono' (F : Fluid n p o c q E R) {i t t' : Nat} (h : t ≤ t') : E i t ≤ E i t' := by
  have := F.mono i t (t' - t)
  rwa [show t + (t' - t) = t' by omega] at this
/-- The more urgent tasks. -/
def hpB (q : Nat → Int) (i : Nat) (k : Nat) : Bool := decide (q k < q i)
/-- What has been worked for them. -/
def SH (n : Nat) (q : Nat → Int) (E : Nat → Nat → Nat) (i t : Nat) : Nat := sumH (hpB q i) (fun k => E k t) n
/-- What has been asked by them. -/
def AH (n : Nat) (p o c : Nat → Nat) (q : Nat → Int) (i t : Nat) : Nat := sumH (hpB q i) (fun k => c k * relC (p k) (o k) t) n
def dem (n : Nat) (p c : Nat → Nat) (q : Nat → Int) (i r : Nat) : Nat := sumH (hpB q i) (fun k => ceilC (p k) r * c k) n
theorem Fluid.sh_le (F : Fluid n p o c q E R) (i t : Nat) : SH n q E i t ≤ AH n p o c q i t := sumH_mono fun k hk _ => F.le k t hk
theorem Fluid.sh_step (F : Fluid n p o c q E R) (i t : Nat) : SH n q E i (t + 1) = SH n q E i t + (if 0 ≤ R t ∧ q (R t).toNat < q i then 1 else 0) := by
  unfold SH
  by_cases h0 : 0 ≤ R t
  · obtain ⟨a, ha⟩ := Int.eq_ofNat_of_zero_le h0
    have hr := F.rng t
    have e : (fun k => E k (t + 1)) = fun k => E k t + (if k = a then 1 else 0) := by
      funext k
      rw [F.e1, ha]
      congr 1
      by_cases h : k = a
      · subst h; rw [if_pos rfl, if_pos rfl]
      · rw [if_neg h, if_neg (by omega)]
    rw [e, sumH_add, sumH_one, ha]
    congr 1
    have hb : hpB q i a = decide (q a < q i) := rfl
    by_cases h : q a < q i
    · rw [if_pos ⟨by omega, by rw [hb]; simpa using h⟩, if_pos ⟨by omega, h⟩]
    · rw [if_neg (fun z => h (by have := z.2; rw [hb] at this; simpa using this)), if_neg (fun z => h z.2)]
  · have e : (fun k => E k (t + 1)) = fun k => E k t := by
      funext k
      rw [F.e1, if_neg (by omega)]; rfl
    rw [e, if_neg (fun z => h0 z.1)]; rfl
theorem AH_sub (F : Fluid n p o c q E R) (i t r : Nat) : AH n p o c q i (t + r) ≤ AH n p o c q i t + dem n p c q i r := by
  unfold AH dem
  rw [← sumH_add]
  refine sumH_mono fun k hk _ => ?_
  have := relC_sub (o := o k) (t := t) (r := r) (F.p0 k hk)
  calc c k * relC (p k) (o k) (t + r) ≤ c k * (relC (p k) (o k) t + ceilC (p k) r) := Nat.mul_le_mul_left _ this
    _ = c k * relC (p k) (o k) t + ceilC (p k) r * c k := by rw [Nat.mul_add, Nat.mul_comm (c k) (ceilC _ _)]
/-- Where not all that was asked by the more urgent tasks has been done, one of them runs. -/
theorem Fluid.sh_busy (F : Fluid n p o c q E R) {i t : Nat} (h : SH n q E i t < AH n p o c q i (t + 1)) : 0 ≤ R t ∧ q (R t).toNat < q i := by
  have hex : ∃ k, k < n ∧ q k < q i ∧ E k t < c k * relC (p k) (o k) (t + 1) := by
    refine Classical.byContradiction fun hno => ?_
    refine absurd h (Nat.not_lt.2 (sumH_mono fun k hk hh => ?_))
    refine Nat.not_lt.1 fun hl => hno ⟨k, hk, by simpa [hpB] using hh, hl⟩
  obtain ⟨k, hk, hq, hp⟩ := hex
  by_cases h0 : 0 ≤ R t
  · have := (F.run t h0).2 k hk hp
    exact ⟨h0, by omega⟩
  · exact absurd hp (F.idle t (by omega) k hk)
/-- The last time at which nothing of the more urgent tasks was left. -/
theorem Fluid.quiet (F : Fluid n p o c q E R) (i : Nat) : ∀ r, ∃ t0, t0 ≤ r ∧ SH n q E i t0 = AH n p o c q i t0 ∧ ∀ u, t0 < u → u ≤ r → SH n q E i u < AH n p o c q i u
  | 0 => by
    refine ⟨0, Nat.le_refl _, ?_, fun u h1 h2 => by omega⟩
    refine Nat.le_antisymm (F.sh_le i 0) ?_
    refine sumH_mono fun k hk _ => ?_
    have hp := F.p0 k hk
    rw [F.e0]
    unfold relC
    rw [Nat.div_eq_of_lt (by omega)]
    exact Nat.le_refl _
  | r + 1 => by
    by_cases h : SH n q E i (r + 1) = AH n p o c q i (r + 1)
    · exact ⟨r + 1, Nat.le_refl _, h, fun u h1 h2 => by omega⟩
    · obtain ⟨t0, h1, h2, h3⟩ := F.quiet i r
      refine ⟨t0, by omega, h2, fun u h4 h5 => ?_⟩
      by_cases e : u = r + 1
      · subst e
        have := F.sh_le i (r + 1)
        omega
      · exact h3 u h4 (by omega)
/-- Where a task's work is left, it runs or a more urgent one. -/
theorem Fluid.both (F : Fluid n p o c q E R) {i t : Nat} (hi : i < n) (h : E i t < c i * relC (p i) (o i) (t + 1)) : SH n q E i (t + 1) + E i (t + 1) = SH n q E i t + E i t + 1 := by
  have h0 : 0 ≤ R t := by
    refine Int.not_lt.1 fun hl => ?_
    exact F.idle t hl i hi h
  have hq := (F.run t h0).2 i hi h
  have hr := F.rng t
  rw [F.sh_step, F.e1]
  by_cases e : (R t).toNat = i
  · have e2 : R t = (i : Int) := by omega
    rw [if_pos e2, if_neg (fun z => by rw [e] at z; omega)]
    omega
  · have : q (R t).toNat < q i := by
      rcases Int.lt_or_eq_of_le hq with z | z
      · exact z
      · exact absurd (F.inj _ i (by omega) hi z) e
    rw [if_pos ⟨h0, this⟩, if_neg (by omega)]
    omega
/-- Every job ends in time. -/
theorem Fluid.bound (F : Fluid n p o c q E R) {i w : Nat} (hi : i < n) (hw : c i + dem n p c q i w = w) (hwp : w ≤ p i) : ∀ m, c i * (m + 1) ≤ E i (o i + m * p i + w) := by
  intro m
  have hp := F.p0 i hi
  have hc := F.c0 i hi
  have hprev : c i * m ≤ E i (o i + m * p i) := by
    cases m with
    | zero => rw [Nat.mul_zero]; exact Nat.zero_le _
    | succ m =>
      refine Nat.le_trans (F.bound hi hw hwp m) (F.mono' ?_)
      rw [Nat.add_mul]; omega
  generalize hr : o i + m * p i = r at hprev
  have hrel : relC (p i) (o i) r = m := by rw [← hr]; exact relC_at hp
  have hrel1 : m + 1 ≤ relC (p i) (o i) (r + 1) := by rw [← hr, relC_next hp]; exact Nat.le_refl _
  have hle := F.le i r hi
  rw [hrel] at hle
  have hE : E i r = c i * m := by omega
  obtain ⟨t0, h1, h2, h3⟩ := F.quiet i r
  refine Nat.not_lt.1 fun hcon => ?_
  have hdem := AH_sub F i t0 w
  have hsle := F.sh_le i (t0 + w)
  have hsh : ∀ k, t0 + k ≤ r → SH n q E i (t0 + k) = SH n q E i t0 + k := by
    intro k
    induction k with
    | zero => exact fun _ => rfl
    | succ k ih =>
      intro hk
      have ih := ih (by omega)
      have hb := h3 (t0 + k + 1) (by omega) hk
      have hst := F.sh_step i (t0 + k)
      have hmono : SH n q E i (t0 + k) ≤ SH n q E i (t0 + k + 1) := by rw [hst]; omega
      have := F.sh_busy (i := i) (t := t0 + k) (by omega)
      rw [if_pos this] at hst
      show SH n q E i (t0 + k + 1) = _
      omega
  by_cases hcase : t0 + w ≤ r
  · have := hsh w hcase
    omega
  · have hmw : E i (t0 + w) ≤ E i (r + w) := F.mono' (by omega)
    have hboth : ∀ k, r + k ≤ t0 + w → SH n q E i (r + k) + E i (r + k) = SH n q E i r + E i r + k := by
      intro k
      induction k with
      | zero => exact fun _ => rfl
      | succ k ih =>
        intro hk
        have ih := ih (by omega)
        have hm : E i (r + k) ≤ E i (t0 + w) := F.mono' (by omega)
        have hrk : relC (p i) (o i) (r + 1) ≤ relC (p i) (o i) (r + k + 1) := relC_mono (by omega)
        have hcm : c i * (m + 1) ≤ c i * relC (p i) (o i) (r + k + 1) := Nat.mul_le_mul_left _ (by omega)
        have := F.both hi (t := r + k) (by omega)
        show SH n q E i (r + k + 1) + E i (r + k + 1) = _
        omega
    have e1 := hboth (t0 + w - r) (by omega)
    have e2 := hsh (r - t0) (by omega)
    rw [show r + (t0 + w - r) = t0 + w by omega] at e1
    rw [show t0 + (r - t0) = r by omega] at e2
    have e3 : c i * (m + 1) = c i * m + c i := Nat.mul_succ _ _
    omega
/-- Without offsets the first job's end solves the equation. -/
theorem Fluid.first (F : Fluid n p o c q E R) {i f : Nat} (hi : i < n) (ho : ∀ k, k < n → o k = 0) (h1 : E i f < c i) (h2 : c i ≤ E i (f + 1)) : c i + dem n p c q i (f + 1) = f + 1 := by
  have hp := F.p0 i hi
  have hrel : ∀ u, 1 ≤ relC (p i) (o i) (u + 1) := fun u => by
    rw [ho i hi]
    have := relC_next (o := 0) (m := 0) hp
    have h2 : relC (p i) 0 (0 + 0 * p i + 1) ≤ relC (p i) 0 (u + 1) := relC_mono (by omega)
    omega
  have hboth : ∀ k, k ≤ f + 1 → SH n q E i k + E i k = k := by
    intro k
    induction k with
    | zero =>
      intro _
      rw [F.e0]
      unfold SH
      rw [sumH_eq (g' := fun _ => 0) (fun k _ _ => F.e0 k), sumH_zero]
    | succ k ih =>
      intro hk
      have ih := ih (by omega)
      have hm : E i k ≤ E i f := F.mono' (by omega)
      have : c i * 1 ≤ c i * relC (p i) (o i) (k + 1) := Nat.mul_le_mul_left _ (hrel k)
      have := F.both hi (t := k) (by omega)
      omega
  have e1 := hboth (f + 1) (Nat.le_refl _)
  have hst := F.e1 i f
  have hR : R f = (i : Int) := by
    refine Classical.byContradiction fun hne => ?_
    rw [if_neg hne] at hst
    omega
  rw [if_pos hR] at hst
  have hdone : ∀ k, k < n → hpB q i k = true → E k (f + 1) = ceilC (p k) (f + 1) * c k := by
    intro k hk hh
    have hq : q k < q i := by simpa [hpB] using hh
    have hno : ¬ E k f < c k * relC (p k) (o k) (f + 1) := fun hl => by
      have := (F.run f (by omega)).2 k hk hl
      rw [hR] at this
      have e : ((i : Int)).toNat = i := by omega
      rw [e] at this
      omega
    have hl := F.le k (f + 1) hk
    have hm := F.mono1 k f
    rw [ho k hk, ceil_rel] at hl hno
    rw [Nat.mul_comm]
    omega
  have : SH n q E i (f + 1) = dem n p c q i (f + 1) := sumH_eq hdone
  omega
end
end Go.Proofs.Ytbhbjmneglkgnaa.Img
