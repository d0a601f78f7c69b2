/- Tasks and their simulation: definitions, and what stays true. Conditions: none. -/
namespace Go.Proofs.Ytbhbjmneglkgnaa.Img
/-- Tasks: period, offset, cost, deadline, priority. -/
structure Tsk where
  p : Nat → Int
  o : Nat → Int
  c : Nat → Int
  d : Nat → Int
  q : Nat → Int
/-- The state of the simulation: the jobs, the queues, what the first job of each still needs. -/
structure Sim where
  jn : Nat
  jt : Nat → Int
  jr : Nat → Int
  js : Nat → Int
  jf : Nat → Int
  qn : Nat → Nat
  qf : Nat → Nat → Int
  lf : Nat → Int
def fup {α : Type} (f : Nat → α) (i : Nat) (v : α) (k : Nat) : α := if k = i then v else f k
theorem fup_self {α : Type} {f : Nat → α} {i : Nat} {v : α} : fup f i v i = v := if_pos rfl
theorem fup_ne {α : Type} {f : Nat → α} {i k : Nat} {v : α} (h : k ≠ i) : fup f i v k = f k := if_neg h
def pushS (x : Tsk) (t i : Nat) (s : Sim) : Sim :=
  { jn := s.jn + 1, jt := fup s.jt s.jn i, jr := fup s.jr s.jn t, js := fup s.js s.jn (-1), jf := fup s.jf s.jn (-1), qn := fup s.qn i (s.qn i + 1)
    qf := fup s.qf i (fup (s.qf i) (s.qn i) s.jn), lf := fup s.lf i (if s.qn i = 0 then x.c i else s.lf i) }
def due (x : Tsk) (t i : Nat) : Prop := x.o i ≤ t ∧ ((t : Int) - x.o i).tmod (x.p i) = 0
instance {x : Tsk} {t i : Nat} : Decidable (due x t i) := inferInstanceAs (Decidable (_ ∧ _))
def relS (x : Tsk) (t i : Nat) (s : Sim) : Sim := if due x t i then pushS x t i s else s
def pick (x : Tsk) (s : Sim) (i : Nat) (run : Int) : Int := if 0 < s.qn i ∧ (run < 0 ∨ x.q i < x.q run.toNat) then i else run
def inn (x : Tsk) (t : Nat) (s : Sim) : Nat → Sim × Int
  | 0 => (s, -1)
  | i + 1 => (relS x t i (inn x t s i).1, pick x (relS x t i (inn x t s i).1) i (inn x t s i).2)
def runS (x : Tsk) (t i : Nat) (s : Sim) : Sim :=
  { jn := s.jn, jt := s.jt, jr := s.jr, js := fup s.js (s.qf i 0).toNat (if s.js (s.qf i 0).toNat < 0 then t else s.js (s.qf i 0).toNat)
    jf := fup s.jf (s.qf i 0).toNat (if s.lf i - 1 = 0 then t + 1 else s.jf (s.qf i 0).toNat)
    qn := fup s.qn i (if s.lf i - 1 = 0 then s.qn i - 1 else s.qn i), qf := fup s.qf i (if s.lf i - 1 = 0 then fun k => s.qf i (k + 1) else s.qf i)
    lf := fup s.lf i (if s.lf i - 1 = 0 then x.c i else s.lf i - 1) }
def excS (x : Tsk) (t : Nat) (r : Sim × Int) : Sim := if r.2 < 0 then r.1 else runS x t r.2.toNat r.1
def sim0 : Sim := ⟨0, fun _ => 0, fun _ => 0, fun _ => 0, fun _ => 0, fun _ => 0, fun _ _ => 0, fun _ => 0⟩
def simS (x : Tsk) (n : Nat) : Nat → Sim
  | 0 => sim0
  | t + 1 => excS x t (inn x t (simS x n t) n)

structure TskOK (x : Tsk) (n : Nat) : Prop where
  le : n ≤ 8
  p : ∀ i, i < n → 1 ≤ x.p i ∧ x.p i ≤ 4096
  o : ∀ i, i < n → 0 ≤ x.o i ∧ x.o i < x.p i
  c : ∀ i, i < n → 1 ≤ x.c i ∧ x.c i ≤ x.d i
  d : ∀ i, i < n → x.d i ≤ x.p i
  q : ∀ i k, i < n → k < i → x.q k ≠ x.q i

/-- What the walk needs. -/
structure WI (n m : Nat) (b : Int) (s : Sim) : Prop where
  jn : s.jn ≤ m
  q : ∀ i, i < n → ∀ k, k < s.qn i → 0 ≤ s.qf i k ∧ s.qf i k < s.jn
  qn : ∀ i, i < n → s.qn i ≤ s.jn
  lf : ∀ i, i < n → -b ≤ s.lf i ∧ s.lf i ≤ 4096
theorem WI.push {x : Tsk} {n m t i : Nat} {b : Int} {s : Sim} (h : WI n m b s) (hx : TskOK x n) (hb : 0 ≤ b) (hi : i < n) : WI n (m + 1) b (pushS x t i s) := by
  refine ⟨by have := h.jn; show s.jn + 1 ≤ m + 1; omega, fun k hk j hj => ?_, fun k hk => ?_, fun k hk => ?_⟩
  · show 0 ≤ fup s.qf i _ k j ∧ fup s.qf i _ k j < ((s.jn + 1 : Nat) : Int)
    have hj : j < fup s.qn i (s.qn i + 1) k := hj
    by_cases e : k = i
    · subst e
      rw [fup_self] at hj ⊢
      by_cases e2 : j = s.qn k
      · subst e2; rw [fup_self]; omega
      · rw [fup_ne e2]
        have := h.q k hk j (by omega)
        omega
    · rw [fup_ne e] at hj ⊢
      have := h.q k hk j hj
      omega
  · show fup s.qn i (s.qn i + 1) k ≤ s.jn + 1
    have := h.qn k hk
    by_cases e : k = i
    · subst e; rw [fup_self]; omega
    · rw [fup_ne e]; omega
  · show -b ≤ fup s.lf i _ k ∧ fup s.lf i _ k ≤ 4096
    have h1 := h.lf k hk
    by_cases e : k = i
    · subst e
      rw [fup_self]
      have := hx.c k hi
      have := hx.d k hi
      have := hx.p k hi
      split <;> omega
    · rw [fup_ne e]; exact h1
theorem WI.mono {n m m' : Nat} {b : Int} {s : Sim} (h : WI n m b s) (hm : m ≤ m') : WI n m' b s := ⟨Nat.le_trans h.jn hm, h.q, h.qn, h.lf⟩
theorem WI.rel {x : Tsk} {n m t i : Nat} {b : Int} {s : Sim} (h : WI n m b s) (hx : TskOK x n) (hb : 0 ≤ b) (hi : i < n) : WI n (m + 1) b (relS x t i s) := by
  unfold relS
  split
  · exact h.push hx hb hi
  · exact h.mono (Nat.le_succ _)
/-- Of the task that is chosen. -/
structure RI (i : Nat) (r : Sim × Int) : Prop where
  lo : -1 ≤ r.2
  hi : r.2 < i
  q : 0 ≤ r.2 → 0 < r.1.qn r.2.toNat
theorem rel_qn {x : Tsk} {t i k : Nat} {s : Sim} (h : 0 < s.qn k) : 0 < (relS x t i s).qn k := by
  unfold relS
  split
  · show 0 < fup s.qn i (s.qn i + 1) k
    by_cases e : k = i
    · subst e; rw [fup_self]; omega
    · rw [fup_ne e]; exact h
  · exact h
theorem inn_ok {x : Tsk} {n m t : Nat} {b : Int} {s : Sim} (h : WI n m b s) (hx : TskOK x n) (hb : 0 ≤ b) : ∀ i, i ≤ n → WI n (m + i) b (inn x t s i).1 ∧ RI i (inn x t s i)
  | 0, _ => ⟨h, ⟨by show (-1 : Int) ≤ -1; omega, by show (-1 : Int) < _; omega, fun h => absurd h (by show ¬ (0 : Int) ≤ -1; omega)⟩⟩
  | i + 1, hi => by
    obtain ⟨h1, h2⟩ := inn_ok h hx hb i (by omega)
    refine ⟨h1.rel hx hb (by omega), ?_, ?_, fun h => ?_⟩
    · show -1 ≤ pick x _ i _
      unfold pick
      have := h2.lo
      split <;> omega
    · show pick x _ i _ < _
      unfold pick
      have := h2.hi
      split <;> omega
    · have h : 0 ≤ pick x (relS x t i (inn x t s i).1) i (inn x t s i).2 := h
      show 0 < (relS x t i (inn x t s i).1).qn (pick x (relS x t i (inn x t s i).1) i (inn x t s i).2).toNat
      unfold pick at h ⊢
      split
      · rename_i hc; exact hc.1
      · rename_i hc
        rw [if_neg hc] at h
        exact rel_qn (h2.q h)
theorem runS_ok {x : Tsk} {n m t i : Nat} {b : Int} {s : Sim} (h : WI n m b s) (hx : TskOK x n) (hb : 0 ≤ b) (hi : i < n) : WI n m (b + 1) (runS x t i s) := by
  refine ⟨h.jn, fun k hk j hj => ?_, fun k hk => ?_, fun k hk => ?_⟩
  · show 0 ≤ fup s.qf i _ k j ∧ fup s.qf i _ k j < (s.jn : Int)
    have hj : j < fup s.qn i (if s.lf i - 1 = 0 then s.qn i - 1 else s.qn i) k := hj
    by_cases e : k = i
    · subst e
      rw [fup_self] at hj ⊢
      split at hj
      · rename_i e1
        rw [if_pos e1]
        exact h.q k hk (j + 1) (by omega)
      · rename_i e1
        rw [if_neg e1]
        exact h.q k hk j hj
    · rw [fup_ne e] at hj ⊢
      exact h.q k hk j hj
  · show fup s.qn i _ k ≤ s.jn
    have := h.qn k hk
    by_cases e : k = i
    · subst e; rw [fup_self]; split <;> omega
    · rw [fup_ne e]; omega
  · show -(b + 1) ≤ fup s.lf i _ k ∧ fup s.lf i _ k ≤ 4096
    have h1 := h.lf k hk
    by_cases e : k = i
    · subst e
      rw [fup_self]
      have := hx.c k hi
      have := hx.d k hi
      have := hx.p k hi
      split <;> omega
    · rw [fup_ne e]; omega
theorem sim_ok {x : Tsk} {n : Nat} (hx : TskOK x n) : ∀ t : Nat, WI n (t * n) t (simS x n t)
  | 0 => ⟨by show 0 ≤ _; omega, fun i _ k hk => absurd hk (by show ¬ k < 0; omega), fun _ _ => Nat.le_refl _, fun i _ => by show -((0 : Nat) : Int) ≤ 0 ∧ (0 : Int) ≤ 4096; omega⟩
  | t + 1 => by
    obtain ⟨h1, h2⟩ := inn_ok (t := t) (sim_ok hx t) hx (by omega) n (Nat.le_refl _)
    show WI n ((t + 1) * n) _ (excS x t (inn x t (simS x n t) n))
    rw [Nat.add_mul, Nat.one_mul]
    unfold excS
    split
    · refine ⟨h1.jn, h1.q, h1.qn, fun i hi => ?_⟩
      have := h1.lf i hi
      omega
    · have hlt : (inn x t (simS x n t) n).2.toNat < n := by have := h2.hi; omega
      have := runS_ok (t := t) h1 hx (by omega) hlt
      exact ⟨this.jn, this.q, this.qn, fun i hi => by have := this.lf i hi; omega⟩
end Go.Proofs.Ytbhbjmneglkgnaa.Img
