/- Chapter 48: the log and all beginnings of faults. Conditions: none. -/
import Derived.Test.YtiodcjbpfhfmbaaFlt10
namespace Go.Proofs.Ytiodcjbpfhfmbaa.Img
open Go Go.Proofs.Ytiodcjbpfhfmbaa.AI Go.Proofs
theorem bw_zero (i : Nat) : bw 0 i = false := by
  unfold bw
  rw [uand1, Int.zero_fdiv]
  rfl
theorem bw_not (p : Int) (i : Nat) : decide (uand (p.fdiv (2 ^ (min i 32))) 1 = 0) = !bw p i := by
  unfold bw
  rw [uand1]
  have : (p.fdiv (2 ^ (min i 32))) % 2 = 0 ∨ (p.fdiv (2 ^ (min i 32))) % 2 = 1 := by omega
  rcases this with h | h <;> rw [h] <;> rfl
theorem lgN_sh (k d : Nat) (c : Nat → Bool) : ∀ i, lgN (k + d) c i = lgN k c i + d
  | 0 => rfl
  | i + 1 => by
    unfold lgN
    rw [lgN_sh k d c i]
    split <;> omega
theorem lgA_sh {k d : Nat} {c : Nat → Bool} {A a v : Nat → Int} (h : ∀ j, j < k → A (j + d) = a j) : ∀ i j, j < lgN k c i → lgA (k + d) c A v i (j + d) = lgA k c a v i j
  | 0, j, hj => h j hj
  | i + 1, j, hj => by
    unfold lgN at hj
    unfold lgA
    by_cases hc : c i = true
    · rw [if_pos hc] at hj ⊢
      rw [if_pos hc, lgN_sh]
      by_cases q : j < lgN k c i
      · rw [if_pos q, if_pos (by omega)]
        exact lgA_sh h i j q
      · rw [if_neg q, if_neg (by omega)]
    · rw [if_neg hc] at hj ⊢
      rw [if_neg hc]
      exact lgA_sh h i j hj
theorem nTk_eq {k : Nat} (h : k ≤ 300) : nTk (k : Int) = (k : Int) + 1 := by unfold nTk; omega
structure LI (s : FS) (N : Nat) (ea eb : Nat → Int) : Prop where
  k : s.k = min N 16
  a : ∀ j, j < s.k → s.ea j = ea (N - s.k + j)
  b : ∀ j, j < s.k → s.eb j = eb (N - s.k + j)
theorem LI.zero : LI FS.zero 0 (fun _ => 0) (fun _ => 0) := ⟨rfl, fun _ _ => rfl, fun _ _ => rfl⟩
theorem lgN_ge (k : Nat) (c : Nat → Bool) : ∀ i, k ≤ lgN k c i
  | 0 => Nat.le_refl _
  | i + 1 => by have := lgN_ge k c i; unfold lgN; split <;> omega
theorem LI.next {s : FS} {N : Nat} {ea eb : Nat → Int} (h : LI s N ea eb) {n : Nat} {r : Nat → Int} {l : Nat → Bool} {now : Nat → Bool} {ack still : Bool} :
    LI (s.next n r l now ack still) (lgN N (ccF now s.x) n) (lgA N (ccF now s.x) ea (fun i => i) n) (lgA N (ccF now s.x) eb (fun _ => nTk s.tk) n) := by
  obtain ⟨hk, ha, hb⟩ := h
  obtain ⟨d, hd⟩ : ∃ d, d = N - s.k := ⟨_, rfl⟩
  have hN : N = s.k + d := by omega
  have sa : ∀ j, j < s.k → ea (j + d) = s.ea j := fun j hj => by rw [ha j hj, hd, Nat.add_comm]
  have sb : ∀ j, j < s.k → eb (j + d) = s.eb j := fun j hj => by rw [hb j hj, hd, Nat.add_comm]
  have e1 := lgN_sh s.k d (ccF now s.x) n
  have g1 := lgN_ge s.k (ccF now s.x) n
  have A := lgA_sh (c := ccF now s.x) (v := fun i => (i : Int)) sa n
  have B := lgA_sh (c := ccF now s.x) (v := fun _ => nTk s.tk) sb n
  subst hN
  have hk2 : lgC (lgN s.k (ccF now s.x) n) = min (lgN s.k (ccF now s.x) n + d) 16 := by unfold lgC; split <;> omega
  have ek : (s.next n r l now ack still).k = lgC (lgN s.k (ccF now s.x) n) := rfl
  refine ⟨by rw [ek, hk2, e1], fun j hj => ?_, fun j hj => ?_⟩
  · rw [ek] at hj ⊢
    rw [e1]
    show lgD (lgN s.k (ccF now s.x) n) (lgA s.k (ccF now s.x) s.ea (fun i => i) n) j = _
    unfold lgD
    unfold lgC at hj ⊢
    by_cases q : 16 < lgN s.k (ccF now s.x) n
    · rw [if_pos q] at hj ⊢
      rw [if_pos q, ← A _ (by omega)]
      congr 1; omega
    · rw [if_neg q] at hj ⊢
      rw [if_neg q, ← A _ (by omega)]
      congr 1; omega
  · rw [ek] at hj ⊢
    rw [e1]
    show lgD (lgN s.k (ccF now s.x) n) (lgA s.k (ccF now s.x) s.eb (fun _ => nTk s.tk) n) j = _
    unfold lgD
    unfold lgC at hj ⊢
    by_cases q : 16 < lgN s.k (ccF now s.x) n
    · rw [if_pos q] at hj ⊢
      rw [if_pos q, ← B _ (by omega)]
      congr 1; omega
    · rw [if_neg q] at hj ⊢
      rw [if_neg q, ← B _ (by omega)]
      congr 1; omega
end Go.Proofs.Ytiodcjbpfhfmbaa.Img
