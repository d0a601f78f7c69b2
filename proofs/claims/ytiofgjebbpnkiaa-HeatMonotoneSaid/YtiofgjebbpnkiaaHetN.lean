/- Layer 30: an accepted case. Conditions: none. -/
import Derived.Test.YtiofgjebbpnkiaaHetM
namespace Go.Proofs.Ytiofgjebbpnkiaa.Img
open Go Go.Proofs.Ytiofgjebbpnkiaa.AI Go.Proofs
noncomputable section
set_option maxRecDepth 100000
theorem fits_true {n na nl : Nat} {e : Int} {hn pn : Nat} (h : fitsB n na nl e hn pn = true) : e = 0 ∧ hn = n ∧ pn = n := by
  simp only [fitsB, Bool.and_eq_true, decide_eq_true_eq] at h
  exact ⟨h.2.1, by omega, by omega⟩
theorem fits_of {n na nl : Nat} {e : Int} {hn pn : Nat} (h : (!fitsB n na nl e hn pn) = false) : e = 0 ∧ n = hn ∧ n = pn := by
  obtain ⟨a, b, c⟩ := fits_true (by simpa using h)
  exact ⟨a, b.symm, c.symm⟩
/-- A tick with power is one without, and the gain. -/
theorem power_eq {n : Nat} {g am : Nat → Int} {lk : Nat → Nat → Int} (G : GoodC n g am lk) (hs ps : Nat → Int) (amb : Int) {i : Nat} (hi : i < n) :
    stepR n g am lk hs ps amb i = min (wr (stepR n g am lk hs (fun _ => 0) amb i + wr (g i * max 0 (min (ps i) 1073741824)))) 1099511627776 := by
  have hA := amb_range amb
  obtain ⟨h1, h2, h3⟩ := step_val G (hs := hs) (ps := ps) (amb := amb) hi (lo := -1099511627776) (hi' := 1099511627776) ⟨by omega, by omega⟩ (fun j _ => hC_range (hs j))
  obtain ⟨h4, _, _⟩ := step_val G (hs := hs) (ps := fun _ => 0) (amb := amb) hi (lo := -1099511627776) (hi' := 1099511627776) ⟨by omega, by omega⟩ (fun j _ => hC_range (hs j))
  rw [h1, h4]
  generalize hC (hs i) + accI (am i) (ambR amb) (hC (hs i)) (lk i) (fun j => hC (hs j)) n / 65536 = M at h2 h3
  have hP := pC_range (ps i)
  have hg := G.g i hi
  have m1 : 0 ≤ g i * pC (ps i) := Int.mul_nonneg hg.1 hP.1
  have m2 : g i * pC (ps i) ≤ 65536 * 1073741824 := by
    have h1 : g i * pC (ps i) ≤ g i * 1073741824 := Int.mul_le_mul_of_nonneg_left hP.2 hg.1
    omega
  rw [show max 0 (min (ps i) 1073741824) = pC (ps i) from rfl, show pC 0 = 0 from rfl, Int.mul_zero, Int.add_zero, wr_id (n := g i * pC (ps i)) (by omega) (by omega)]
  rw [show hC M = M by unfold hC; omega, wr_id (by omega) (by omega)]
  unfold hC
  omega
end
end Go.Proofs.Ytiofgjebbpnkiaa.Img
