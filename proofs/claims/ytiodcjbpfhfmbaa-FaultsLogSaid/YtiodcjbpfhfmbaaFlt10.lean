/- Chapter 48: bits of two words joined; the reaction grows with the faults. Conditions: none. -/
import Derived.Test.YtiodcjbpfhfmbaaFlt9
namespace Go.Proofs.Ytiodcjbpfhfmbaa.Img
open Go Go.Proofs.Ytiodcjbpfhfmbaa.AI Go.Proofs
theorem wrU {n : Nat} (h : n < 4294967296) : IntKind.u32.wrap (n : Int) = n := by
  unfold IntKind.wrap
  simp only [IntKind.signed, IntKind.bits]
  simp
  omega
theorem ofI (w : Int) : (BitVec.ofInt 32 w).toNat = (w % 4294967296).toNat := by
  rw [BitVec.toNat_ofInt]; rfl
theorem uand1 (x : Int) : uand x 1 = x % 2 := by
  unfold uand
  have h1 : (BitVec.ofInt 32 x &&& BitVec.ofInt 32 1).toNat = (x % 4294967296).toNat % 2 := by
    rw [BitVec.toNat_and, ofI, ofI, show ((1 : Int) % 4294967296).toNat = 1 by decide, Nat.and_one_is_mod]
  rw [h1, wrU (by omega)]
  omega
theorem uor_eq (a b : Int) : uor a b = (((a % 4294967296).toNat ||| (b % 4294967296).toNat : Nat) : Int) := by
  unfold uor
  have h1 : (BitVec.ofInt 32 a ||| BitVec.ofInt 32 b).toNat = (a % 4294967296).toNat ||| (b % 4294967296).toNat := by
    rw [BitVec.toNat_or, ofI, ofI]
  have h2 := (BitVec.ofInt 32 a ||| BitVec.ofInt 32 b).isLt
  rw [h1] at h2
  rw [h1, wrU h2]
theorem bw_bit {w : Int} {i : Nat} (h : i < 32) : bw w i = (w % 4294967296).toNat.testBit i := by
  unfold bw
  rw [uand1, show min i 32 = i by omega, Nat.testBit_eq_decide_div_mod_eq]
  obtain ⟨p, hp⟩ : ∃ p : Nat, p = 2 ^ i := ⟨_, rfl⟩
  have hp0 : 0 < p := by rw [hp]; exact Nat.pow_pos (by decide)
  have e2 : (2 : Int) ^ i = (p : Int) := by rw [hp]; norm_cast
  obtain ⟨q, hq⟩ : ∃ q : Nat, (4294967296 : Nat) = p * (2 * q) := ⟨2 ^ (31 - i), by
    rw [hp, show 2 * 2 ^ (31 - i) = 2 ^ (31 - i + 1) from (Nat.pow_succ' ..).symm, ← Nat.pow_add, show i + (31 - i + 1) = 32 by omega]⟩
  rw [e2, Int.fdiv_eq_ediv_of_nonneg _ (by omega), ← hp]
  have hw := Int.emod_add_mul_ediv w 4294967296
  obtain ⟨u, hu⟩ : ∃ u : Nat, w % 4294967296 = (u : Int) := ⟨(w % 4294967296).toNat, by omega⟩
  rw [hu] at hw ⊢
  rw [Int.toNat_natCast, ← hw]
  have e3 : (4294967296 : Int) = p * (2 * q) := (congrArg Int.ofNat hq).trans rfl
  rw [e3, show (u : Int) + p * (2 * q) * (w / (p * (2 * q))) = u + p * (2 * (q * (w / (p * (2 * q))))) by rw [Int.mul_assoc, Int.mul_assoc], Int.add_mul_ediv_left _ _ (by omega : (p : Int) ≠ 0)]
  have e4 : (u : Int) / p = ((u / p : Nat) : Int) := by norm_cast
  rw [e4]
  generalize (q : Int) * (w / (p * (2 * q))) = z
  congr 1
  apply propext
  omega
theorem bw_or {a b : Int} {i : Nat} (h : i < 32) : bw (uor a b) i = (bw a i || bw b i) := by
  rw [bw_bit h, bw_bit h, bw_bit h, uor_eq, ← Nat.testBit_or]
  have h2 : (a % 4294967296).toNat ||| (b % 4294967296).toNat < 2 ^ 32 := Nat.or_lt_two_pow (by omega) (by omega)
  congr 1
  omega
theorem wst_mono {r : Nat → Int} {c c' : Nat → Bool} : ∀ {n : Nat}, (∀ i, i < n → c i = true → c' i = true) → (∀ i, i < n → 0 ≤ r i) → wst r c n ≤ wst r c' n
  | 0, _, _ => Int.le_refl _
  | n + 1, h, h0 => by
    have := wst_mono (r := r) (c := c) (c' := c') (n := n) (fun i hi => h i (by omega)) (fun i hi => h0 i (by omega))
    have h1 := h n (by omega)
    unfold wst
    by_cases hc : c n = true
    · rw [if_pos hc, if_pos (h1 hc)]; omega
    · rw [if_neg hc]; split <;> omega
theorem rea_mono {w w' re re' : Int} {st : Bool} (h : w ≤ w') (h4 : w' ≤ 4) (hr : re ≤ re') : rea w re st ≤ rea w' re' st := by
  unfold rea
  simp only []
  cases st with
  | false => simp only [Bool.false_eq_true, false_and, if_false]; split <;> split <;> omega
  | true => simp only [true_and]; split <;> split <;> split <;> split <;> omega
theorem FS.next_mono {n : Nat} {r : Nat → Int} {l : Nat → Bool} {s t : FS} {a b : Nat → Bool} {still : Bool} (h : rchk n r = 0) (hab : ∀ i, i < n → a i = true → b i = true)
    (hy : ∀ i, i < n → s.y i = true → t.y i = true) (hre : s.re ≤ t.re) :
    (∀ i, i < n → (s.next n r l a false still).y i = true → (t.next n r l b false still).y i = true) ∧ (s.next n r l a false still).re ≤ (t.next n r l b false still).re := by
  obtain ⟨_, _, hr⟩ := rchk_zero h
  have hh : ∀ i, i < n → hldF a false s.y l i = true → hldF b false t.y l i = true := fun i hi q => by
    unfold hldF at q ⊢
    rw [show (if false = true then false else s.y i) = s.y i from rfl] at q
    rw [show (if false = true then false else t.y i) = t.y i from rfl]
    by_cases ha : a i = true
    · rw [if_pos ha, Bool.or_eq_true] at q
      rw [if_pos (hab i hi ha), Bool.or_eq_true]
      rcases q with q | q
      · exact Or.inl (hy i hi q)
      · exact Or.inr q
    · rw [if_neg ha] at q
      have := hy i hi q
      split
      · rw [this, Bool.true_or]
      · exact this
  refine ⟨hh, rea_mono (wst_mono (fun i hi q => ?_) fun i hi => (hr i hi).1) (wst_le hr) hre⟩
  rw [Bool.or_eq_true] at q ⊢
  rcases q with q | q
  · exact Or.inl (hab i hi q)
  · exact Or.inr (hh i hi q)
end Go.Proofs.Ytiodcjbpfhfmbaa.Img
