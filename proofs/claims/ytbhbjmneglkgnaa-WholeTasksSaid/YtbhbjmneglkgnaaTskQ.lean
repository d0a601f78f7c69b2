/- The simulation works by priorities: what its state says of the work done. Conditions: none. -/
import Derived.Test.YtbhbjmneglkgnaaTskC
import Derived.Test.YtbhbjmneglkgnaaTskP
namespace Go.Proofs.Ytbhbjmneglkgnaa.Img
def pN (x : Tsk) (i : Nat) : Nat := (x.p i).toNat
def oN (x : Tsk) (i : Nat) : Nat := (x.o i).toNat
def cN (x : Tsk) (i : Nat) : Nat := (x.c i).toNat
theorem due_rel {x : Tsk} {n t i : Nat} (hx : TskOK x n) (hi : i < n) (h : due x t i) : t = oN x i + relC (pN x i) (oN x i) t * pN x i ∧ relC (pN x i) (oN x i) (t + 1) = relC (pN x i) (oN x i) t + 1 := by
  have hp := hx.p i hi
  have ho := hx.o i hi
  have hpp : 0 < pN x i := by unfold pN; omega
  have e1 : (pN x i : Int) = x.p i := by unfold pN; omega
  have e2 : (oN x i : Int) = x.o i := by unfold oN; omega
  obtain ⟨h1, h2⟩ := h
  have h3 : ((t - oN x i : Nat) : Int) = (t : Int) - x.o i := by omega
  rw [← h3, ← e1, ← Int.ofNat_tmod] at h2
  have h4 : (t - oN x i) % pN x i = 0 := by omega
  have h5 : t - oN x i = (t - oN x i) / pN x i * pN x i := by
    have := Nat.div_add_mod (t - oN x i) (pN x i)
    rw [h4, Nat.mul_comm] at this
    omega
  have h6 : t = oN x i + (t - oN x i) / pN x i * pN x i := by omega
  generalize (t - oN x i) / pN x i = m at h6
  rw [h6, relC_at hpp, relC_next hpp]
  exact ⟨rfl, rfl⟩
theorem notdue_rel {x : Tsk} {n t i : Nat} (hx : TskOK x n) (hi : i < n) (h : ¬ due x t i) : relC (pN x i) (oN x i) (t + 1) = relC (pN x i) (oN x i) t := by
  have hp := hx.p i hi
  have ho := hx.o i hi
  have hpp : 0 < pN x i := by unfold pN; omega
  have e1 : (pN x i : Int) = x.p i := by unfold pN; omega
  have e2 : (oN x i : Int) = x.o i := by unfold oN; omega
  unfold relC
  by_cases h1 : x.o i ≤ t
  · have h3 : ((t - oN x i : Nat) : Int) = (t : Int) - x.o i := by omega
    have h4 : ¬ (t - oN x i) % pN x i = 0 := fun h4 => h ⟨h1, by rw [← h3, ← e1, ← Int.ofNat_tmod, h4]; rfl⟩
    have hd := Nat.div_add_mod (t - oN x i) (pN x i)
    have hl := Nat.mod_lt (t - oN x i) hpp
    rw [Nat.mul_comm] at hd
    generalize (t - oN x i) / pN x i = q at hd
    generalize hr : (t - oN x i) % pN x i = r at hd hl h4
    rw [show t + 1 - oN x i + pN x i - 1 = r + (q + 1) * pN x i by rw [Nat.add_mul]; omega, show t - oN x i + pN x i - 1 = (r - 1) + (q + 1) * pN x i by rw [Nat.add_mul]; omega,
      Nat.add_mul_div_right _ _ hpp, Nat.add_mul_div_right _ _ hpp, Nat.div_eq_of_lt hl, Nat.div_eq_of_lt (by omega)]
  · rw [show t + 1 - oN x i + pN x i - 1 = pN x i - 1 by omega, show t - oN x i + pN x i - 1 = pN x i - 1 by omega]

/-- What has been worked for a task. -/
def exe (x : Tsk) (n i : Nat) : Nat → Nat
  | 0 => 0
  | t + 1 => exe x n i t + (if (inn x t (simS x n t) n).2 = (i : Int) then 1 else 0)

structure INV (x : Tsk) (n : Nat) (E : Nat → Nat → Nat) (t : Nat) (rel : Nat → Nat) (s : Sim) : Prop where
  d : ∀ i, i < n → E i t / cN x i ≤ rel i
  qn : ∀ i, i < n → s.qn i = rel i - E i t / cN x i
  x0 : ∀ i, i < n → s.qn i = 0 → E i t % cN x i = 0
  lf : ∀ i, i < n → 0 < s.qn i → s.lf i = (cN x i : Int) - ((E i t % cN x i : Nat) : Int)
  q : ∀ i, i < n → ∀ k, k < s.qn i → 0 ≤ s.qf i k ∧ s.qf i k < s.jn ∧ s.jt (s.qf i k).toNat = i ∧ s.jr (s.qf i k).toNat = ((oN x i + (E i t / cN x i + k) * pN x i : Nat) : Int) ∧ s.jf (s.qf i k).toNat = -1
  j : ∀ j, j < s.jn → ∃ i m, i < n ∧ s.jt j = i ∧ s.jr j = ((oN x i + m * pN x i : Nat) : Int) ∧ m < rel i ∧
    ((m < E i t / cN x i ∧ ∃ f : Nat, s.jf j = ((f + 1 : Nat) : Int) ∧ f + 1 ≤ t ∧ E i f < cN x i * (m + 1) ∧ cN x i * (m + 1) ≤ E i (f + 1)) ∨
      (E i t / cN x i ≤ m ∧ s.jf j = -1 ∧ s.qf i (m - E i t / cN x i) = j))

section
variable {x : Tsk} {n t : Nat} {E : Nat → Nat → Nat} {rel rel' : Nat → Nat} {s : Sim}
theorem INV.congr (h : INV x n E t rel s) (he : ∀ i, i < n → rel i = rel' i) : INV x n E t rel' s := by
  refine ⟨fun i hi => by rw [← he i hi]; exact h.d i hi, fun i hi => by rw [← he i hi]; exact h.qn i hi, h.x0, h.lf, h.q, fun j hj => ?_⟩
  obtain ⟨i, m, h1, h2, h3, h4, h5⟩ := h.j j hj
  exact ⟨i, m, h1, h2, h3, by rw [← he i h1]; exact h4, h5⟩
theorem INV.push (h : INV x n E t rel s) (hx : TskOK x n) {i : Nat} (hi : i < n) (ht : t = oN x i + rel i * pN x i) : INV x n E t (fup rel i (rel i + 1)) (pushS x t i s) := by
  have hd := h.d i hi
  have hqn := h.qn i hi
  have hci := hx.c i hi
  refine ⟨fun k hk => ?_, fun k hk => ?_, fun k hk hz => ?_, fun k hk hz => ?_, fun k hk a ha => ?_, fun j hj => ?_⟩
  · by_cases e : k = i
    · subst e; rw [fup_self]; omega
    · rw [fup_ne e]; exact h.d k hk
  · show fup s.qn i (s.qn i + 1) k = _
    by_cases e : k = i
    · subst e; rw [fup_self, fup_self]; omega
    · rw [fup_ne e, fup_ne e]; exact h.qn k hk
  · have hz : fup s.qn i (s.qn i + 1) k = 0 := hz
    by_cases e : k = i
    · subst e; rw [fup_self] at hz; omega
    · rw [fup_ne e] at hz; exact h.x0 k hk hz
  · have hz : 0 < fup s.qn i (s.qn i + 1) k := hz
    show fup s.lf i _ k = _
    by_cases e : k = i
    · subst e
      rw [fup_self]
      split
      · rename_i e0
        rw [h.x0 k hi e0]
        unfold cN; omega
      · exact h.lf k hi (by omega)
    · rw [fup_ne e] at hz ⊢; exact h.lf k hk hz
  · have ha : a < fup s.qn i (s.qn i + 1) k := ha
    have old : ∀ k a, k < n → a < s.qn k → 0 ≤ s.qf k a ∧ s.qf k a < ((s.jn + 1 : Nat) : Int) ∧ fup s.jt s.jn i (s.qf k a).toNat = k ∧ fup s.jr s.jn t (s.qf k a).toNat = ((oN x k + (E k t / cN x k + a) * pN x k : Nat) : Int) ∧ fup s.jf s.jn (-1) (s.qf k a).toNat = -1 := by
      intro k a hk ha
      obtain ⟨h1, h2, h3, h4, h5⟩ := h.q k hk a ha
      have hne : (s.qf k a).toNat ≠ s.jn := by omega
      rw [fup_ne hne, fup_ne hne, fup_ne hne]
      exact ⟨h1, by omega, h3, h4, h5⟩
    show 0 ≤ fup s.qf i _ k a ∧ fup s.qf i _ k a < ((s.jn + 1 : Nat) : Int) ∧ fup s.jt s.jn i (fup s.qf i _ k a).toNat = k ∧ fup s.jr s.jn t (fup s.qf i _ k a).toNat = _ ∧ fup s.jf s.jn (-1) (fup s.qf i _ k a).toNat = -1
    by_cases e : k = i
    · subst e
      rw [fup_self] at ha ⊢
      by_cases e2 : a = s.qn k
      · subst e2
        rw [fup_self]
        have ej : ((s.jn : Int)).toNat = s.jn := by omega
        rw [ej, fup_self, fup_self, fup_self]
        refine ⟨by omega, by omega, rfl, ?_, rfl⟩
        rw [hqn, show E k t / cN x k + (rel k - E k t / cN x k) = rel k by omega, ← ht]
      · rw [fup_ne e2]
        exact old k a hi (by omega)
    · rw [fup_ne e] at ha ⊢
      exact old k a hk ha
  · have hj : j < s.jn + 1 := hj
    show ∃ i' m, i' < n ∧ fup s.jt s.jn i j = i' ∧ fup s.jr s.jn t j = _ ∧ m < fup rel i (rel i + 1) i' ∧ ((_ ∧ ∃ f : Nat, fup s.jf s.jn (-1) j = _ ∧ _) ∨ (_ ∧ fup s.jf s.jn (-1) j = -1 ∧ fup s.qf i _ i' _ = j))
    by_cases e : j = s.jn
    · subst e
      rw [fup_self, fup_self, fup_self]
      refine ⟨i, rel i, hi, rfl, by rw [← ht], by rw [fup_self]; omega, .inr ⟨hd, rfl, ?_⟩⟩
      rw [fup_self, ← hqn, fup_self]
    · rw [fup_ne e, fup_ne e, fup_ne e]
      obtain ⟨i', m, h1, h2, h3, h4, h5⟩ := h.j j (by omega)
      refine ⟨i', m, h1, h2, h3, ?_, h5.imp (fun q => q) fun q => ⟨q.1, q.2.1, ?_⟩⟩
      · by_cases e2 : i' = i
        · subst e2; rw [fup_self]; omega
        · rw [fup_ne e2]; exact h4
      · by_cases e2 : i' = i
        · subst e2
          rw [fup_self, fup_ne (by omega)]
          exact q.2.2
        · rw [fup_ne e2]
          exact q.2.2
theorem INV.idle (h : INV x n E t rel s) (hE : ∀ i, E i (t + 1) = E i t) : INV x n E (t + 1) rel s := by
  refine ⟨fun i hi => by rw [hE]; exact h.d i hi, fun i hi => by rw [hE]; exact h.qn i hi, fun i hi hz => by rw [hE]; exact h.x0 i hi hz, fun i hi hz => by rw [hE]; exact h.lf i hi hz,
    fun i hi k hk => by rw [hE]; exact h.q i hi k hk, fun j hj => ?_⟩
  obtain ⟨i, m, h1, h2, h3, h4, h5⟩ := h.j j hj
  refine ⟨i, m, h1, h2, h3, h4, ?_⟩
  rw [hE]
  exact h5.imp (fun ⟨q1, f, q2, q3, q4⟩ => ⟨q1, f, q2, by omega, q4⟩) fun q => q
theorem INV.run (h : INV x n E t rel s) (hx : TskOK x n) {i : Nat} (hi : i < n) (hq0 : 0 < s.qn i) (hEi : E i (t + 1) = E i t + 1) (hEo : ∀ k, k ≠ i → E k (t + 1) = E k t) : INV x n E (t + 1) rel (runS x t i s) := by
  have hci := hx.c i hi
  have hC : 0 < cN x i := by unfold cN; omega
  have hcc : (cN x i : Int) = x.c i := by unfold cN; omega
  have hpi := hx.p i hi
  have hP : 0 < pN x i := by unfold pN; omega
  have hd := h.d i hi
  have hqn := h.qn i hi
  have hlf := h.lf i hi hq0
  obtain ⟨z1, z2, z3, z4, z5⟩ := h.q i hi 0 hq0
  have hdm := Nat.div_add_mod (E i t) (cN x i)
  have hml := Nat.mod_lt (E i t) hC
  generalize hD : E i t / cN x i = D at *
  generalize hX : E i t % cN x i = X at *
  generalize hj0 : (s.qf i 0).toNat = j0 at *
  have hE1 : ∀ k, k ≠ i → E k (t + 1) / cN x k = E k t / cN x k ∧ E k (t + 1) % cN x k = E k t % cN x k := fun k hk => by rw [hEo k hk]; exact ⟨rfl, rfl⟩
  have hother : ∀ k a, k < n → k ≠ i → a < s.qn k → (s.qf k a).toNat ≠ j0 := fun k a hk hne ha e => by
    obtain ⟨_, _, y3, _, _⟩ := h.q k hk a ha
    rw [e, z3] at y3
    omega
  have hsame : ∀ a, 0 < a → a < s.qn i → (s.qf i a).toNat ≠ j0 := fun a h0 ha e => by
    obtain ⟨_, _, _, y4, _⟩ := h.q i hi a ha
    rw [e, z4, hD] at y4
    have y4 : oN x i + (D + 0) * pN x i = oN x i + (D + a) * pN x i := by omega
    have : (D + 0) * pN x i < (D + a) * pN x i := Nat.mul_lt_mul_of_pos_right (by omega) hP
    omega
  have hjo : ∀ i' m j, i' < n → s.jt j = (i' : Int) → j ≠ j0 → (m < E i' t / cN x i' ∧ ∃ f : Nat, s.jf j = ((f + 1 : Nat) : Int) ∧ f + 1 ≤ t ∧ E i' f < cN x i' * (m + 1) ∧ cN x i' * (m + 1) ≤ E i' (f + 1)) →
      ∃ f : Nat, s.jf j = ((f + 1 : Nat) : Int) ∧ f + 1 ≤ t + 1 ∧ E i' f < cN x i' * (m + 1) ∧ cN x i' * (m + 1) ≤ E i' (f + 1) := fun i' m j _ _ _ ⟨_, f, q2, q3, q4⟩ => ⟨f, q2, by omega, q4⟩
  by_cases hl : s.lf i - 1 = 0
  · -- the job ends
    have hX1 : X + 1 = cN x i := by omega
    have hdiv : E i (t + 1) / cN x i = D + 1 := by
      rw [hEi, show E i t + 1 = (D + 1) * cN x i by rw [Nat.add_mul, Nat.mul_comm]; omega, Nat.mul_div_cancel _ hC]
    have hmod : E i (t + 1) % cN x i = 0 := by
      rw [hEi, show E i t + 1 = (D + 1) * cN x i by rw [Nat.add_mul, Nat.mul_comm]; omega, Nat.mul_mod_left]
    refine ⟨fun k hk => ?_, fun k hk => ?_, fun k hk hz => ?_, fun k hk hz => ?_, fun k hk a ha => ?_, fun j hj => ?_⟩
    · by_cases e : k = i
      · subst e; rw [hdiv]; omega
      · rw [(hE1 k e).1]; exact h.d k hk
    · show fup s.qn i _ k = _
      by_cases e : k = i
      · subst e; rw [fup_self, if_pos hl, hdiv]; omega
      · rw [fup_ne e, (hE1 k e).1]; exact h.qn k hk
    · by_cases e : k = i
      · subst e; exact hmod
      · have hz : fup s.qn i _ k = 0 := hz
        rw [fup_ne e] at hz
        rw [(hE1 k e).2]; exact h.x0 k hk hz
    · show fup s.lf i _ k = _
      by_cases e : k = i
      · subst e; rw [fup_self, if_pos hl, hmod, hcc]; omega
      · have hz : 0 < fup s.qn i _ k := hz
        rw [fup_ne e] at hz
        rw [fup_ne e, (hE1 k e).2]; exact h.lf k hk hz
    · have ha : a < fup s.qn i _ k := ha
      show 0 ≤ fup s.qf i _ k a ∧ fup s.qf i _ k a < (s.jn : Int) ∧ s.jt (fup s.qf i _ k a).toNat = k ∧ s.jr (fup s.qf i _ k a).toNat = _ ∧ fup s.jf (s.qf i 0).toNat _ (fup s.qf i _ k a).toNat = -1
      rw [hj0]
      by_cases e : k = i
      · subst e
        rw [fup_self, if_pos hl] at ha ⊢
        obtain ⟨y1, y2, y3, y4, y5⟩ := h.q k hk (a + 1) (by omega)
        rw [fup_ne (hsame (a + 1) (by omega) (by omega)), hdiv]
        rw [hD] at y4
        exact ⟨y1, y2, y3, by rw [y4]; congr 3; omega, y5⟩
      · rw [fup_ne e] at ha ⊢
        obtain ⟨y1, y2, y3, y4, y5⟩ := h.q k hk a ha
        rw [fup_ne (hother k a hk e ha), (hE1 k e).1]
        exact ⟨y1, y2, y3, y4, y5⟩
    · have hj : j < s.jn := hj
      show ∃ i' m, i' < n ∧ s.jt j = i' ∧ s.jr j = _ ∧ m < rel i' ∧ ((_ ∧ ∃ f : Nat, fup s.jf (s.qf i 0).toNat _ j = _ ∧ _) ∨ (_ ∧ fup s.jf (s.qf i 0).toNat _ j = -1 ∧ fup s.qf i _ i' _ = j))
      rw [hj0]
      by_cases e : j = j0
      · subst e
        refine ⟨i, D, hi, z3, by rw [z4]; congr 3, by omega, .inl ⟨by rw [hdiv]; omega, t, ?_, Nat.le_refl _, ?_, ?_⟩⟩
        · rw [fup_self, if_pos hl]; omega
        · rw [Nat.mul_succ]; omega
        · rw [Nat.mul_succ, hEi]; omega
      · rw [fup_ne e]
        obtain ⟨i', m, h1, h2, h3, h4, h5⟩ := h.j j hj
        refine ⟨i', m, h1, h2, h3, h4, ?_⟩
        by_cases e2 : i' = i
        · subst e2
          rw [hdiv, fup_self, if_pos hl]
          rw [hD] at h5
          rcases h5 with ⟨q1, q2⟩ | ⟨q1, q2, q3⟩
          · obtain ⟨f, y2, y3, y4⟩ := q2
            exact .inl ⟨by omega, f, y2, by omega, y4⟩
          · have hne : m ≠ D := fun e3 => by
              subst e3
              rw [Nat.sub_self] at q3
              apply e
              rw [← hj0, q3]; omega
            refine .inr ⟨by omega, q2, ?_⟩
            show s.qf i' (m - (D + 1) + 1) = j
            rw [show m - (D + 1) + 1 = m - D by omega]
            exact q3
        · rw [(hE1 i' e2).1, fup_ne e2]
          rcases h5 with ⟨q1, f, y2, y3, y4⟩ | q
          · exact .inl ⟨q1, f, y2, by omega, y4⟩
          · exact .inr q
  · -- it goes on
    have hX1 : X + 1 < cN x i := by omega
    have hee : E i t + 1 = (X + 1) + D * cN x i := by rw [Nat.mul_comm]; omega
    have hdiv : E i (t + 1) / cN x i = D := by
      rw [hEi, hee, Nat.add_mul_div_right _ _ hC, Nat.div_eq_of_lt hX1, Nat.zero_add]
    have hmod : E i (t + 1) % cN x i = X + 1 := by
      rw [hEi, hee, Nat.add_mul_mod_self_right, Nat.mod_eq_of_lt hX1]
    have hfj : ∀ j, fup s.jf (s.qf i 0).toNat (if s.lf i - 1 = 0 then (t : Int) + 1 else s.jf (s.qf i 0).toNat) j = s.jf j := fun j => by
      rw [if_neg hl]
      by_cases e : j = (s.qf i 0).toNat
      · rw [e, fup_self]
      · rw [fup_ne e]
    have hfq : ∀ k, fup s.qf i (if s.lf i - 1 = 0 then fun k => s.qf i (k + 1) else s.qf i) k = s.qf k := fun k => by
      rw [if_neg hl]
      by_cases e : k = i
      · rw [e, fup_self]
      · rw [fup_ne e]
    have hfn : ∀ k, fup s.qn i (if s.lf i - 1 = 0 then s.qn i - 1 else s.qn i) k = s.qn k := fun k => by
      rw [if_neg hl]
      by_cases e : k = i
      · rw [e, fup_self]
      · rw [fup_ne e]
    have hdiv' : ∀ k, E k (t + 1) / cN x k = E k t / cN x k := fun k => by
      by_cases e : k = i
      · rw [e, hdiv, hD]
      · exact (hE1 k e).1
    refine ⟨fun k hk => by rw [hdiv']; exact h.d k hk, fun k hk => ?_, fun k hk hz => ?_, fun k hk hz => ?_, fun k hk a ha => ?_, fun j hj => ?_⟩
    · show fup s.qn i _ k = _
      rw [hfn, hdiv']; exact h.qn k hk
    · have hz : fup s.qn i _ k = 0 := hz
      rw [hfn] at hz
      by_cases e : k = i
      · subst e; omega
      · rw [(hE1 k e).2]; exact h.x0 k hk hz
    · have hz : 0 < fup s.qn i _ k := hz
      rw [hfn] at hz
      show fup s.lf i _ k = _
      by_cases e : k = i
      · subst e; rw [fup_self, if_neg hl, hmod]; omega
      · rw [fup_ne e, (hE1 k e).2]; exact h.lf k hk hz
    · have ha : a < fup s.qn i _ k := ha
      rw [hfn] at ha
      show 0 ≤ fup s.qf i _ k a ∧ fup s.qf i _ k a < (s.jn : Int) ∧ s.jt (fup s.qf i _ k a).toNat = k ∧ s.jr (fup s.qf i _ k a).toNat = _ ∧ fup s.jf (s.qf i 0).toNat _ (fup s.qf i _ k a).toNat = -1
      rw [hfj, hfq, hdiv']
      exact h.q k hk a ha
    · have hj : j < s.jn := hj
      show ∃ i' m, i' < n ∧ s.jt j = i' ∧ s.jr j = _ ∧ m < rel i' ∧ ((_ ∧ ∃ f : Nat, fup s.jf (s.qf i 0).toNat _ j = _ ∧ _) ∨ (_ ∧ fup s.jf (s.qf i 0).toNat _ j = -1 ∧ fup s.qf i _ i' _ = j))
      rw [hfj]
      obtain ⟨i', m, h1, h2, h3, h4, h5⟩ := h.j j hj
      refine ⟨i', m, h1, h2, h3, h4, ?_⟩
      rw [hdiv', hfq]
      exact h5.imp (fun ⟨q1, f, q2, q3, q4⟩ => ⟨q1, f, q2, by omega, q4⟩) fun q => q
end

/-- What is known of the task that is chosen. -/
structure PK (x : Tsk) (k : Nat) (r : Sim × Int) : Prop where
  no : r.2 < 0 → ∀ i, i < k → r.1.qn i = 0
  yes : 0 ≤ r.2 → ∀ i, i < k → 0 < r.1.qn i → x.q r.2.toNat ≤ x.q i
theorem rel_other {x : Tsk} {t i k : Nat} {s : Sim} (h : k ≠ i) : (relS x t i s).qn k = s.qn k := by
  unfold relS
  split
  · exact fup_ne h
  · rfl
theorem inn_pk {x : Tsk} {n t : Nat} {s : Sim} : ∀ i, i ≤ n → PK x i (inn x t s i)
  | 0, _ => ⟨fun _ i hi => by omega, fun _ i hi => by omega⟩
  | i + 1, hi => by
    have ih := inn_pk (x := x) (n := n) (t := t) (s := s) i (by omega)
    obtain ⟨S, hS⟩ : ∃ S, relS x t i (inn x t s i).1 = S := ⟨_, rfl⟩
    have hq : ∀ k, k ≠ i → S.qn k = (inn x t s i).1.qn k := fun k hk => by rw [← hS]; exact rel_other hk
    have e : inn x t s (i + 1) = (S, pick x S i (inn x t s i).2) := by
      show (relS x t i (inn x t s i).1, pick x (relS x t i (inn x t s i).1) i (inn x t s i).2) = _
      rw [hS]
    rw [e]
    unfold pick
    by_cases hc : 0 < S.qn i ∧ ((inn x t s i).2 < 0 ∨ x.q i < x.q (inn x t s i).2.toNat)
    · rw [if_pos hc]
      refine ⟨fun h => absurd h (by show ¬ (i : Int) < 0; omega), fun _ k hk hp => ?_⟩
      have hp : 0 < S.qn k := hp
      show x.q (i : Int).toNat ≤ x.q k
      rw [show ((i : Int)).toNat = i by omega]
      by_cases e2 : k = i
      · subst e2; exact Int.le_refl _
      · rw [hq k e2] at hp
        rcases hc.2 with h | h
        · have := ih.no h k (by omega)
          omega
        · by_cases h0 : (inn x t s i).2 < 0
          · have := ih.no h0 k (by omega)
            omega
          · have := ih.yes (by omega) k (by omega) hp
            omega
    · rw [if_neg hc]
      refine ⟨fun h k hk => ?_, fun h k hk hp => ?_⟩
      · have h : (inn x t s i).2 < 0 := h
        show S.qn k = 0
        by_cases e2 : k = i
        · subst e2
          exact Nat.eq_zero_of_not_pos fun z => hc ⟨z, .inl h⟩
        · rw [hq k e2]; exact ih.no h k (by omega)
      · have h : 0 ≤ (inn x t s i).2 := h
        have hp : 0 < S.qn k := hp
        show x.q (inn x t s i).2.toNat ≤ x.q k
        by_cases e2 : k = i
        · subst e2
          exact Int.not_lt.1 fun z => hc ⟨hp, .inr z⟩
        · rw [hq k e2] at hp
          exact ih.yes h k (by omega) hp
theorem inn_inv {x : Tsk} {n t : Nat} {E : Nat → Nat → Nat} {s : Sim} (hx : TskOK x n) (h : INV x n E t (fun i => relC (pN x i) (oN x i) t) s) : ∀ k, k ≤ n →
    INV x n E t (fun i => if i < k then relC (pN x i) (oN x i) (t + 1) else relC (pN x i) (oN x i) t) (inn x t s k).1
  | 0, _ => h.congr fun i _ => by rw [if_neg (by omega)]
  | k + 1, hk => by
    have ih := inn_inv hx h k (by omega)
    have hki : k < n := by omega
    show INV x n E t _ (relS x t k (inn x t s k).1)
    unfold relS
    by_cases hd : due x t k
    · rw [if_pos hd]
      obtain ⟨d1, d2⟩ := due_rel hx hki hd
      refine (ih.push hx hki (by rw [if_neg (by omega)]; exact d1)).congr fun i _ => ?_
      by_cases e : i = k
      · subst e; rw [fup_self, if_neg (by omega), if_pos (by omega), d2]
      · rw [fup_ne e]
        by_cases e2 : i < k
        · rw [if_pos e2, if_pos (by omega)]
        · rw [if_neg e2, if_neg (by omega)]
    · rw [if_neg hd]
      refine ih.congr fun i _ => ?_
      by_cases e : i = k
      · subst e; rw [if_neg (by omega), if_pos (by omega), notdue_rel hx hki hd]
      · by_cases e2 : i < k
        · rw [if_pos e2, if_pos (by omega)]
        · rw [if_neg e2, if_neg (by omega)]
theorem inn_ri {x : Tsk} {n : Nat} (hx : TskOK x n) (t : Nat) : RI n (inn x t (simS x n t) n) := (inn_ok (t := t) (sim_ok hx t) hx (by omega) n (Nat.le_refl _)).2
/-- At each time. -/
theorem sim_inv {x : Tsk} {n : Nat} (hx : TskOK x n) : ∀ t, INV x n (exe x n) t (fun i => relC (pN x i) (oN x i) t) (simS x n t)
  | 0 => by
    have h0 : ∀ i, i < n → relC (pN x i) (oN x i) 0 = 0 := fun i hi => by
      have := hx.p i hi
      unfold relC
      exact Nat.div_eq_of_lt (by unfold pN; omega)
    refine ⟨fun i hi => by show 0 / _ ≤ _; rw [Nat.zero_div]; exact Nat.zero_le _, fun i hi => ?_, fun i hi _ => by show 0 % _ = 0; exact Nat.zero_mod _, fun i hi h => absurd h (by show ¬ 0 < 0; omega), fun i hi k hk => absurd hk (by show ¬ k < 0; omega), fun j hj => absurd hj (by show ¬ j < 0; omega)⟩
    show 0 = relC _ _ 0 - _
    rw [h0 i hi, Nat.zero_sub]
  | t + 1 => by
    have ih := inn_inv hx (sim_inv hx t) n (Nat.le_refl _)
    have ih := ih.congr (rel' := fun i => relC (pN x i) (oN x i) (t + 1)) fun i hi => if_pos hi
    have hr := inn_ri hx t
    show INV x n _ (t + 1) _ (excS x t (inn x t (simS x n t) n))
    unfold excS
    by_cases h0 : (inn x t (simS x n t) n).2 < 0
    · rw [if_pos h0]
      exact ih.idle fun i => by
        show exe x n i t + _ = _
        rw [if_neg (by omega)]; rfl
    · rw [if_neg h0]
      have hhi := hr.hi
      refine ih.run hx (by omega) (hr.q (by omega)) ?_ fun k hk => ?_
      · show exe x n _ t + _ = _
        rw [if_pos (by omega)]
      · show exe x n _ t + _ = _
        rw [if_neg (by omega)]; rfl
theorem pend_iff {x : Tsk} {n t : Nat} {E : Nat → Nat → Nat} {rel : Nat → Nat} {s : Sim} (hx : TskOK x n) (h : INV x n E t rel s) {i : Nat} (hi : i < n) : (0 < s.qn i ↔ E i t < cN x i * rel i) ∧ E i t ≤ cN x i * rel i := by
  have hci := hx.c i hi
  have hC : 0 < cN x i := by unfold cN; omega
  have hd := h.d i hi
  have hqn := h.qn i hi
  have hdm := Nat.div_add_mod (E i t) (cN x i)
  have hml := Nat.mod_lt (E i t) hC
  have h0 := h.x0 i hi
  by_cases e : E i t / cN x i = rel i
  · have h0 := h0 (by omega)
    rw [← e]
    omega
  · have : cN x i * (E i t / cN x i + 1) ≤ cN x i * rel i := Nat.mul_le_mul_left _ (by omega)
    rw [Nat.mul_succ] at this
    omega
/-- The simulation's work is work by priorities. -/
theorem sim_fluid {x : Tsk} {n : Nat} (hx : TskOK x n) : Fluid n (pN x) (oN x) (cN x) x.q (exe x n) (fun t => (inn x t (simS x n t) n).2) := by
  have mid : ∀ t, INV x n (exe x n) t (fun i => relC (pN x i) (oN x i) (t + 1)) (inn x t (simS x n t) n).1 := fun t => (inn_inv hx (sim_inv hx t) n (Nat.le_refl _)).congr fun i hi => if_pos hi
  refine ⟨fun i hi => ?_, fun i hi => ?_, fun i k hi hk e => ?_, fun _ => rfl, fun _ _ => rfl, fun i t hi => (pend_iff hx (sim_inv hx t) hi).2, fun t => (inn_ri hx t).hi, fun t h0 => ?_, fun t h0 i hi => ?_⟩
  · have := hx.p i hi; unfold pN; omega
  · have := hx.c i hi; unfold cN; omega
  · rcases Nat.lt_trichotomy i k with h | h | h
    · exact absurd e (hx.q k i hk h)
    · exact h
    · exact absurd e.symm (hx.q i k hi h)
  · have h0 : 0 ≤ (inn x t (simS x n t) n).2 := h0
    have hr := inn_ri hx t
    have hhi := hr.hi
    refine ⟨(pend_iff hx (mid t) (by show (inn x t (simS x n t) n).2.toNat < n; omega)).1.1 (hr.q h0), fun i hi hp => ?_⟩
    exact (inn_pk (n := n) n (Nat.le_refl _)).yes h0 i hi ((pend_iff hx (mid t) hi).1.2 hp)
  · intro hp
    have := (inn_pk (n := n) n (Nat.le_refl _)).no h0 i hi
    have := (pend_iff hx (mid t) hi).1.2 hp
    omega
end Go.Proofs.Ytbhbjmneglkgnaa.Img
