/- Chapter 45: the arguments of layer 30. Conditions: none. -/
import Derived.Test.YtjmidgfkocmihaaImgH5
import Derived.ProofKit
namespace Go.Proofs.Ytjmidgfkocmihaa.Img
open Go Go.Proofs.Ytjmidgfkocmihaa.AI Go.Proofs
theorem openI2 {l : List AV} {d : Nat} (h : Arg E0 (d + 1) 3 l) : ∃ g, l = [.int .i64 g] ∧ InR g := by
  obtain ⟨g, rfl, hg⟩ := h
  exact ⟨g, rfl, inR_of hg⟩
theorem openS2 {l : List AV} {d : Nat} (h : Arg E0 (d + 2) 40 l) : ∃ k f, l = [.sl 1 k f] ∧ Ints k f ∧ (∀ i, i < k → InR (vI f i)) ∧ k ≤ 9223372036854775807 := by
  obtain ⟨k, f, rfl, hk, hf⟩ := h
  have hz : ∀ i, i < k → ∃ z, f i 0 = .int .i64 z ∧ InR z := fun i hi => by
    obtain ⟨z, h1, h2⟩ := hf i hi
    exact ⟨z, (List.cons.inj h1).1, inR_of h2⟩
  refine ⟨k, f, rfl, fun i hi => ?_, fun i hi => ?_, hk⟩
  · obtain ⟨z, h1, _⟩ := hz i hi
    rw [vI, h1]; rfl
  · obtain ⟨z, h1, h2⟩ := hz i hi
    rw [vI, h1]; exact h2
theorem openSS2 {l : List AV} {d : Nat} (h : Arg E0 (d + 3) 45 l) : ∃ k f, l = [.sl 1 k f] ∧ IsV 1 k f ∧ (∀ i j, i < k → j < vN f i → InR (vII f i j)) ∧ k ≤ 9223372036854775807 := by
  obtain ⟨k, f, rfl, hk, hf⟩ := h
  have hz : ∀ i, i < k → ∃ n g, f i 0 = .sl 1 n g ∧ Ints n g ∧ (∀ j, j < n → InR (vI g j)) := fun i hi => by
    obtain ⟨n, g, h1, h2, h3, _⟩ := openS2 (hf i hi)
    exact ⟨n, g, (List.cons.inj h1).1, h2, h3⟩
  refine ⟨k, f, rfl, ⟨rfl, fun i hi => ?_⟩, fun i j hi hj => ?_, hk⟩
  · obtain ⟨n, g, h1, h2, _⟩ := hz i hi
    rw [vN, h1]; exact ⟨rfl, h2⟩
  · obtain ⟨n, g, h1, _, h3⟩ := hz i hi
    rw [vN, h1] at hj
    rw [vII, h1]; exact h3 j hj
/-- What a configuration is. -/
theorem openC2 {l : List AV} (h : Arg E0 9 47 l) : ∃ n na nl gf af lf, l = [.sl 1 n gf, .sl 1 na af, .sl 1 nl lf] ∧ Ints n gf ∧ Ints na af ∧ IsV 1 nl lf := by
  obtain ⟨_, _, rfl, h1, _, _, rfl, h2, _, _, rfl, h3, rfl⟩ := h
  obtain ⟨n, gf, rfl, a1, _⟩ := openS2 h1
  obtain ⟨na, af, rfl, a2, _⟩ := openS2 h2
  obtain ⟨nl, lf, rfl, a3, _⟩ := openSS2 h3
  exact ⟨n, na, nl, gf, af, lf, rfl, a1, a2, a3⟩
end Go.Proofs.Ytjmidgfkocmihaa.Img
