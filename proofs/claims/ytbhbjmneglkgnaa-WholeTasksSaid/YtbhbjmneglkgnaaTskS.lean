/- The law on the analysis of response times: what its text needs besides. Conditions: none. -/
import Derived.Test.YtbhbjmneglkgnaaTskG
import Derived.Test.YtbhbjmneglkgnaaTskR
namespace Go.Proofs.Ytbhbjmneglkgnaa.Img
open Go Go.Proofs.Ytbhbjmneglkgnaa.AI Go.Proofs
noncomputable section
set_option maxRecDepth 100000
theorem openTsk {d : Nat} {l : List AV} (h : Arg E0 (d + 3) 22 l) : ∃ n f, l = [.sl 5 n f] ∧ Tsks n f (tskO f) := by
  obtain ⟨n, f, rfl, _, hf⟩ := h
  refine ⟨n, f, rfl, fun i hi => ?_⟩
  obtain ⟨x1, y1, e1, ⟨a, ha, _⟩, x2, y2, e2, ⟨b, hb, _⟩, x3, y3, e3, ⟨c, hc, _⟩, x4, y4, e4, ⟨d', hd, _⟩, x5, y5, e5, ⟨g, hg, _⟩, e6⟩ := hf i hi
  subst ha hb hc hd hg e6
  subst e5
  subst e4
  subst e3
  subst e2
  have e1 : [f i 0, f i 1, f i 2, f i 3, f i 4] = [AV.int .i64 a, .int .i64 b, .int .i64 c, .int .i64 d', .int .i64 g] := e1
  simp only [List.cons.injEq, and_true] at e1
  obtain ⟨q0, q1, q2, q3, q4⟩ := e1
  refine ⟨⟨⟨⟨⟨trivial, ?_⟩, ?_⟩, ?_⟩, ?_⟩, ?_⟩
  · show f i 0 = .int .i64 (asI (f i 0)); rw [q0]; rfl
  · show f i 1 = .int .i64 (asI (f i 1)); rw [q1]; rfl
  · show f i 2 = .int .i64 (asI (f i 2)); rw [q2]; rfl
  · show f i 3 = .int .i64 (asI (f i 3)); rw [q3]; rfl
  · show f i 4 = .int .i64 (asI (f i 4)); rw [q4]; rfl
/-- How long is simulated. -/
def unt (x : Tsk) : Nat → Int
  | 0 => 600
  | k + 1 => min 8000 (max (unt x k) (3 * x.p k))
theorem unt_bd (x : Tsk) : ∀ k, 600 ≤ unt x k ∧ unt x k ≤ 8000
  | 0 => by show (600 : Int) ≤ 600 ∧ (600 : Int) ≤ 8000; omega
  | k + 1 => by
    have := unt_bd x k
    show 600 ≤ min 8000 (max (unt x k) (3 * x.p k)) ∧ min 8000 (max (unt x k) (3 * x.p k)) ≤ 8000
    omega
theorem job_rng {x : Tsk} {n u j : Nat} (hx : TskOK x n) (hj : j < (simS x n u).jn) : -1 ≤ (simS x n u).jf j ∧ (simS x n u).jf j ≤ u := by
  obtain ⟨i, m, h1, h2, h3, h4, h5⟩ := (sim_inv hx u).j j hj
  rcases h5 with ⟨_, f, q1, q2, _⟩ | ⟨_, q, _⟩ <;> omega
theorem noO_step (x : Tsk) (i a b : Nat) (hb : b < 5) : updF (tskF (noO x i)) i 1 [.int .i64 0] a b = tskF (noO x (i + 1)) a b := by
  by_cases e : a = i
  · subst e
    have : AllLt 5 fun b => updF (tskF (noO x a)) a 1 [.int .i64 0] a b = tskF (noO x (a + 1)) a b := by
      refine ⟨⟨⟨⟨⟨trivial, rfl⟩, ?_⟩, rfl⟩, rfl⟩, rfl⟩
      show updF (tskF (noO x a)) a 1 [.int .i64 0] a 1 = .int .i64 (if a < a + 1 then 0 else x.o a)
      rw [if_pos (by omega)]
      exact upd_at
    exact allLt this b hb
  · rw [updF_out (fun h => e h.1)]
    have : (noO x (i + 1)).o a = (noO x i).o a := by
      show (if a < i + 1 then 0 else x.o a) = if a < i then 0 else x.o a
      by_cases h : a < i
      · rw [if_pos h, if_pos (by omega)]
      · rw [if_neg h, if_neg (by omega)]
    unfold tskF
    rw [this]
    rfl
def wrsF (x : Tsk) (n : Nat) : Nat → Nat → AV := fun i _ => .int .i64 (worstF x n i)
end
end Go.Proofs.Ytbhbjmneglkgnaa.Img
