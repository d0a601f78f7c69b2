/- Chapter 45: what all laws' lifts share. Conditions: none. -/
import Derived.Test.YtjmidgfkocmihaaImg5
import Derived.ProofKit
namespace Go.Proofs.Ytjmidgfkocmihaa.Img
open Go Go.Proofs.Ytjmidgfkocmihaa.AI Go.Proofs
noncomputable section
set_option maxRecDepth 100000

def E0 : Env := env TE tabs []
theorem own0 : ownKnob Try.prog.godebug = none := by kernel_rfl
theorem laidOut0 : Go.laidOutB Try.prog = true := by kernel_rfl
theorem tabE0 : TabOK Try.prog E0 := tabOK_of tabsOK

/-- A whole number in its range. -/
def InR (z : Int) : Prop := -9223372036854775808 ≤ z ∧ z ≤ 9223372036854775807
theorem inR_of {z : Int} (h : (Lit.int .i64 z).wf = true) : InR z := by
  simp [Lit.wf, IntKind.min, IntKind.max, IntKind.signed, IntKind.bits] at h
  exact ⟨by omega, by omega⟩
/-- A configuration's cells. -/
theorem open23 {l : List AV} (h : Arg E0 9 23 l) : ∃ g lo w t c, l = [.int .i64 g, .int .i64 lo, .int .i64 w, .int .i64 t, .int .i64 c] ∧ InR g ∧ InR lo ∧ InR w ∧ InR t ∧ InR c := by
  obtain ⟨_, _, rfl, ⟨g, rfl, hg⟩, _, _, rfl, ⟨lo, rfl, hl⟩, _, _, rfl, ⟨w, rfl, hw⟩, _, _, rfl, ⟨t, rfl, ht⟩, _, _, rfl, ⟨c, rfl, hc⟩, rfl⟩ := h
  exact ⟨g, lo, w, t, c, rfl, inR_of hg, inR_of hl, inR_of hw, inR_of ht, inR_of hc⟩
theorem open32 {l : List AV} (h : Arg E0 9 32 l) : ∃ g lo w t, l = [.int .i64 g, .int .i64 lo, .int .i64 w, .int .i64 t] ∧ InR g ∧ InR lo ∧ InR w ∧ InR t := by
  obtain ⟨_, _, rfl, ⟨g, rfl, hg⟩, _, _, rfl, ⟨lo, rfl, hl⟩, _, _, rfl, ⟨w, rfl, hw⟩, _, _, rfl, ⟨t, rfl, ht⟩, rfl⟩ := h
  exact ⟨g, lo, w, t, rfl, inR_of hg, inR_of hl, inR_of hw, inR_of ht⟩
theorem openI {l : List AV} (h : Arg E0 9 3 l) : ∃ g, l = [.int .i64 g] ∧ InR g := by
  obtain ⟨g, rfl, hg⟩ := h
  exact ⟨g, rfl, inR_of hg⟩

theorem openS {l : List AV} (h : Arg E0 9 40 l) : ∃ k f, l = [.sl 1 k f] ∧ Ints k f ∧ (∀ i, i < k → InR (vI f i)) ∧ k ≤ 9223372036854775807 := by
  obtain ⟨k, f, rfl, hk, hf⟩ := h
  have hz : ∀ i, i < k → ∃ z, f i 0 = .int .i64 z ∧ InR z := fun i hi => by
    obtain ⟨z, h1, h2⟩ := hf i hi
    exact ⟨z, (List.cons.inj h1).1, inR_of h2⟩
  refine ⟨k, f, rfl, fun i hi => ?_, fun i hi => ?_, hk⟩
  · obtain ⟨z, h1, _⟩ := hz i hi
    rw [vI, h1]; rfl
  · obtain ⟨z, h1, h2⟩ := hz i hi
    rw [vI, h1]; exact h2
theorem wr_in {z : Int} (h : InR z) : wr z = z := wr_id h.1 h.2
theorem inR_wr (z : Int) : InR (wr z) := wr_range z
theorem wr_idem (z : Int) : wr (wr z) = wr z := wr_in (inR_wr z)
theorem wr_add_wr (a b : Int) : wr (a + wr b) = wr (a + b) := by
  rw [Int.add_comm, wr_wr_add, Int.add_comm]
theorem sh16_eq (x : Int) : sh16 x = x / 65536 := by
  show x.fdiv (2 ^ 16) = x / 65536
  rw [Int.fdiv_eq_ediv_of_nonneg _ (by decide)]
  rfl
/-- The quotient, rounded down, is the shift. -/
theorem floor_sh {x : Int} (h : InR x) : floorI x 65536 = sh16 x := by
  rw [sh16_eq]
  obtain ⟨h1, h2⟩ := h
  unfold floorI
  have e1 := Int.tdiv_eq_ediv (a := x) (b := 65536)
  have e2 := Int.mul_tdiv_add_tmod x 65536
  have e3 := Int.mul_ediv_add_emod x 65536
  have e4 := Int.emod_nonneg x (b := 65536) (by decide)
  have e5 := Int.emod_lt_of_pos x (b := 65536) (by decide)
  by_cases hx : 0 ≤ x ∨ (65536 : Int) ∣ x
  · rw [if_pos hx] at e1
    rw [if_neg (by omega), wr_id (by omega) (by omega)]
    omega
  · rw [if_neg hx] at e1
    have : (65536 : Int).sign = 1 := rfl
    have hne : ¬ x % 65536 = 0 := fun h => hx (.inr (Int.dvd_of_emod_eq_zero h))
    rw [if_pos (by omega), wr_id (n := x.tdiv 65536) (by omega) (by omega), wr_id (by omega) (by omega)]
    omega
theorem sh16_in {x : Int} (h : InR x) : InR (sh16 x) := by
  rw [sh16_eq]
  obtain ⟨h1, h2⟩ := h
  exact ⟨by omega, by omega⟩
theorem clip_hC (x : Int) : clip x (-1099511627776) 1099511627776 = hC x := by
  unfold clip hC; omega
theorem hC_range (x : Int) : -1099511627776 ≤ hC x ∧ hC x ≤ 1099511627776 := by
  unfold hC; omega
theorem hC_in (x : Int) : InR (hC x) := by have := hC_range x; exact ⟨by omega, by omega⟩
/-- The two ticks are one. -/
theorem step_eq (g l h p a : Int) : stepI g l h p a = step45 g l h p a := by
  have ea : wr (clip a (-8388608) 8388608 * 2 ^ (min (16 : Int).toNat 64)) = ambR a := by
    show wr (clip a (-8388608) 8388608 * 65536) = wr (max (-8388608) (min a 8388608) * 65536)
    congr 2
    unfold clip; omega
  have ep : clip p 0 1073741824 = pC p := by unfold clip pC; omega
  have ed : (Int.fdiv (wr (l * wr (ambR a - hC h))) (2 ^ (min (16 : Int).toNat 64))) = sh16 (wr (l * wr (ambR a - hC h))) := rfl
  unfold stepI step45 stepR
  rw [clip_hC, clip_hC, ea, ep, ed, accR, accR, ← floor_sh (inR_wr _)]
  congr 1
  rw [wr_wr_add, Int.zero_mul, show wr 0 = 0 from rfl, Int.add_zero, wr_idem, wr_add_wr, wr_add_wr, ← Int.add_assoc, wr_add_wr]
theorem step_in (g l h p a : Int) : InR (step45 g l h p a) := hC_in _
theorem ticks_congr {st st' : Int → Int} {hot hot' : Int → Bool} (h1 : ∀ h, st h = st' h) (h2 : ∀ h, hot (st h) = hot' (st h)) : ∀ (k n : Nat) (h : Int), ticks st hot k n h = ticks st' hot' k n h
  | 0, _, _ => rfl
  | k + 1, n, h => by rw [ticks, ticks, ← h1, h2, ticks_congr h1 h2 k]
end
end Go.Proofs.Ytjmidgfkocmihaa.Img
