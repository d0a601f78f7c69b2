/- A welded channel: what the law needs. Conditions: none. -/
import Derived.Test.YtbhbjmneglkgnaaTop7
namespace Go.Proofs.Ytbhbjmneglkgnaa.Img
open Go Go.Proofs.Ytbhbjmneglkgnaa.AI Go.Proofs
theorem openI {l : List AV} {d : Nat} (h : Arg E0 (d + 1) 3 l) : ∃ g, l = [.int .i64 g] := by
  obtain ⟨g, rfl, hg⟩ := h
  exact ⟨g, rfl⟩
theorem openU8 {l : List AV} {d : Nat} (h : Arg E0 (d + 1) 5 l) : ∃ g, l = [.int .u8 g] ∧ 0 ≤ g ∧ g ≤ 255 := by
  obtain ⟨g, rfl, hg⟩ := h
  simp [Lit.wf, IntKind.min, IntKind.max, IntKind.signed, IntKind.bits] at hg
  exact ⟨g, rfl, by omega, by omega⟩
theorem openOC {l : List AV} {d : Nat} (h : Arg E0 (d + 2) 41 l) : ∃ e n a, l = [.int .i64 e, .int .i64 n, .int .i64 a] := by
  obtain ⟨_, _, rfl, h1, _, _, rfl, h2, _, _, rfl, h3, rfl⟩ := h
  obtain ⟨a, rfl⟩ := openI h1
  obtain ⟨b, rfl⟩ := openI h2
  obtain ⟨c, rfl⟩ := openI h3
  exact ⟨a, b, c, rfl⟩
theorem wr8 {n : Int} (h : 0 ≤ n ∧ n ≤ 255) : IntKind.i64.wrap n = n := wr_id (by omega) (by omega)
theorem OI.d_off {x : OI} (h : x.r0 = true) (i : Int) : x.d i = false := by
  have : x.off = true := by rw [OI.off, h]; simp
  rw [OI.d, this]; rfl
theorem stg_next {l g : Int} {c : Bool} {m m' : Nat} (hl : 1 ≤ l ∧ l ≤ 8) (hg : min (m : Int) (l + 1) ≤ g) (h : m' = 0 ∨ (m' = m + 1 ∧ c = false)) : min (m' : Int) (l + 1) ≤ stgF l g c := by
  unfold stgF tcnt
  rw [show wr (l + 1) = l + 1 from wr_id (by omega) (by omega)]
  cases c with
  | true =>
    rcases h with h | h
    · subst h; simp; omega
    · cases h.2
  | false =>
    simp only [Bool.not_false, if_true]
    rw [wr_id (by omega) (by omega)]
    rcases h with h | h <;> omega
theorem so_yes {l g : Int} {m : Nat} (hl : 1 ≤ l ∧ l ≤ 8) (hg : min (m : Int) (l + 1) ≤ g) (h : l + 1 < (m : Int) + 1) : decide (l < stgF l g false) = true := by
  unfold stgF tcnt
  rw [show wr (l + 1) = l + 1 from wr_id (by omega) (by omega)]
  simp only [Bool.not_false, if_true]
  rw [wr_id (by omega) (by omega)]
  exact decide_eq_true (by omega)
def K3.v : K3 → Int
  | .k0 => 0
  | .k1 => 1
  | .k2 => 2
theorem K3.of {n : Int} (h : 0 ≤ n) : ∃ b : K3, n.tmod 3 = b.v := by
  have : n.tmod 3 = 0 ∨ n.tmod 3 = 1 ∨ n.tmod 3 = 2 := by
    rw [Int.tmod_eq_emod_of_nonneg h]
    omega
  rcases this with h | h | h
  · exact ⟨.k0, h⟩
  · exact ⟨.k1, h⟩
  · exact ⟨.k2, h⟩
/-- What the loop carries. -/
structure WS where
  k : Nat
  t : Int
  p : Int
  f0 : Int
  f1 : Int
  d0 : Bool
  d1 : Bool
  h : Bool
  g0 : Int
  g1 : Int
  o : Bool
  c0 : Bool
  c1 : Bool
structure WS.ok (b : K3) (l : Int) (bf : Nat) (s : WS) : Prop where
  k : s.k ≤ 300
  a : b ≠ .k0 → min ((s.k - bf : Nat) : Int) (l + 1) ≤ s.g0
  b : b ≠ .k1 → min ((s.k - bf : Nat) : Int) (l + 1) ≤ s.g1
end Go.Proofs.Ytbhbjmneglkgnaa.Img
