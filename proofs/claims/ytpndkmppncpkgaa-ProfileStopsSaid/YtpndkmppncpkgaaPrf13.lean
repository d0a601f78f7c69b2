/- Chapter 37: a stop. Conditions: none. -/
import Derived.Test.YtpndkmppncpkgaaPrf12
namespace Go.Proofs.Ytpndkmppncpkgaa.Img
open Go Go.Proofs.Ytpndkmppncpkgaa.AI Go.Proofs
theorem openU8 {d : Nat} {l : List AV} (h : Arg E0 (d + 1) 5 l) : ∃ n, l = [.int .u8 n] ∧ 0 ≤ n ∧ n ≤ 255 := by
  obtain ⟨z, rfl, hz⟩ := h
  refine ⟨z, rfl, ?_⟩
  simp [Lit.wf, IntKind.min, IntKind.max, IntKind.bits, IntKind.signed] at hz
  omega
theorem openA {l : List AV} {d : Nat} (h : Arg E0 (d + 2) 60 l) : ∃ x y, l = [.int .u8 x, .int .u8 y] ∧ (0 ≤ x ∧ x ≤ 255) ∧ 0 ≤ y ∧ y ≤ 255 := by
  obtain ⟨_, _, rfl, h1, _, _, rfl, h2, rfl⟩ := h
  obtain ⟨x, rfl, p1⟩ := openU8 h1
  obtain ⟨y, rfl, p2⟩ := openU8 h2
  exact ⟨x, y, rfl, p1, p2⟩
theorem openL {l : List AV} {d : Nat} (h : Arg E0 (d + 2) 48 l) : ∃ n f, l = [.sl 1 n f] ∧ Ints n f ∧ n ≤ 9223372036854775807 := by
  obtain ⟨n, f, rfl, hn, hf⟩ := h
  refine ⟨n, f, rfl, fun i hi => ?_, hn⟩
  obtain ⟨z, hz, _⟩ := openI (hf i hi)
  have : [_] = [_] := hz
  injection this with this
  rw [vI, this]; rfl
/-- The elements that are fed, and zeros behind them. -/
def inU (L : Nat → Int) (n : Nat) (M : Int) (t : Int) : Int := if t < 0 then 0 else if t < n then clip (L t.toNat) 0 M else 0
theorem inU_bd {L : Nat → Int} {n : Nat} {M : Int} (hM : 0 ≤ M) (t : Int) : 0 ≤ inU L n M t ∧ inU L n M t ≤ M := by
  unfold inU clip; split
  · omega
  · split <;> omega
theorem inU_neg {L : Nat → Int} {n : Nat} {M : Int} (t : Int) (h : t < 0) : inU L n M t = 0 := if_pos h
theorem inU_end {L : Nat → Int} {n : Nat} {M : Int} {t : Int} (h : n ≤ t) : inU L n M t = 0 := by
  unfold inU; rw [if_neg (by omega), if_neg (by omega)]
theorem rest_true {a b : Nat} {U : Int → Int} {i n : Nat} {F G : Nat → Int} (H : FInv a b U i F G) (hU : ∀ t, -16777216 ≤ U t ∧ U t ≤ 16777216) (ha : 1 ≤ a ∧ a ≤ 256) (hb : 1 ≤ b ∧ b ≤ 256) (hi : i = n + a + b) (hz : ∀ t : Int, n ≤ t → U t = 0) :
    restV a b a b F G (bx (bx U a) b (i - 1)) = true := by
  have no : ∀ {p : Nat → Bool} {n : Nat}, (∀ j, j < n → p j = false) → anyP p n 0 = false := fun {p n} h => by
    have : ∀ k i, i + k ≤ n → anyP p k i = false := fun k => by
      induction k with
      | zero => exact fun _ _ => rfl
      | succ k ih => intro i hi; rw [anyP, h i (by omega), ih (i + 1) (by omega)]; rfl
    exact this n 0 (by omega)
  have e1 : anyP (fun i => !decide (F i = 0)) a 0 = false := no fun j hj => by rw [H.f j hj, hz _ (by omega)]; rfl
  have e2 : anyP (fun i => !decide (G i = 0)) b 0 = false := no fun j hj => by rw [H.g j hj, bx_zero (fun x h1 _ => hz x (by omega))]; rfl
  have e3 : bx (bx U a) b (i - 1) = 0 := bx_zero fun x h1 _ => bx_zero fun y h2 _ => hz y (by omega)
  rw [restV, finv_chk H hU ha hb, e1, e2, e3]; rfl
theorem mod20 {x : Int} (h : 0 ≤ x ∧ x ≤ 255) : ∃ a : Nat, wr ((wr x).tmod 20 + 1) = a ∧ 1 ≤ a ∧ a ≤ 20 := by
  rw [show wr x = x from wr_id (by omega) (by omega), Int.tmod_eq_emod_of_nonneg h.1]
  refine ⟨(x % 20 + 1).toNat, ?_, by omega, by omega⟩
  rw [wr_id (by omega) (by omega)]; omega
theorem mab {M : Int} {a b : Nat} (hM : 0 ≤ M ∧ M ≤ 16777216) (ha : a ≤ 20) (hb : b ≤ 20) : wr (wr (M * a) * b) = b * (a * M) ∧ wr (M * min (a : Int) b) = M * min (a : Int) b ∧ wr (2 * M) = 2 * M ∧ 0 ≤ b * (a * M) ∧ b * (a * M) ≤ 4611686018427387904 ∧ 0 ≤ M * min (a : Int) b ∧ M * min (a : Int) b ≤ 4611686018427387904 ∧ (M * min (a : Int) b = a * M ∨ M * min (a : Int) b = b * M) := by
  have p1 : (a : Int) * M ≤ 20 * 16777216 := Int.mul_le_mul (by omega) hM.2 hM.1 (by decide)
  have p0 : 0 ≤ (a : Int) * M := Int.mul_nonneg (by omega) hM.1
  have q1 : (b : Int) * (a * M) ≤ 20 * (20 * 16777216) := Int.mul_le_mul (by omega) p1 p0 (by decide)
  have q0 : 0 ≤ (b : Int) * (a * M) := Int.mul_nonneg (by omega) p0
  have r1 : M * min (a : Int) b ≤ 16777216 * 20 := Int.mul_le_mul hM.2 (by omega) (by omega) (by decide)
  have r0 : 0 ≤ M * min (a : Int) b := Int.mul_nonneg hM.1 (by omega)
  have e : M * min (a : Int) b = a * M ∨ M * min (a : Int) b = b * M := by
    rcases Int.le_total (a : Int) b with q | q
    · left; rw [Int.min_eq_left q, Int.mul_comm]
    · right; rw [Int.min_eq_right q, Int.mul_comm]
  refine ⟨?_, wr_id (by omega) (by omega), wr_id (by omega) (by omega), q0, by omega, r0, by omega, e⟩
  rw [Int.mul_comm M, wr_id (n := a * M) (by omega) (by omega), Int.mul_comm _ (b : Int), wr_id (by omega) (by omega)]
end Go.Proofs.Ytpndkmppncpkgaa.Img
