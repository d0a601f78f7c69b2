/- Chapter 48: an input of a tick. Conditions: none. -/
import Derived.Test.YtiodcjbpfhfmbaaFlt9
import Derived.Test.YtiodcjbpfhfmbaaFlt13
namespace Go.Proofs.Ytiodcjbpfhfmbaa.Img
open Go Go.Proofs.Ytiodcjbpfhfmbaa.AI Go.Proofs
theorem openBit {d : Nat} {l : List AV} (h : Arg E0 (d + 1) 4 l) : ∃ b, l = [.bit b] := by
  obtain ⟨b, rfl⟩ := h
  exact ⟨b, rfl⟩
theorem openIn {d : Nat} {l : List AV} (h : Arg E0 (d + 4) 39 l) : ∃ n f p q, l = [.sl 1 n f, .bit p, .bit q] ∧ IsB 1 n f := by
  obtain ⟨_, _, rfl, h1, _, _, rfl, h2, _, _, rfl, h3, rfl⟩ := h
  obtain ⟨n, f, rfl, hf⟩ := openBs h1
  obtain ⟨p, rfl⟩ := openBit h2
  obtain ⟨q, rfl⟩ := openBit h3
  exact ⟨n, f, p, q, rfl, hf⟩
end Go.Proofs.Ytiodcjbpfhfmbaa.Img
