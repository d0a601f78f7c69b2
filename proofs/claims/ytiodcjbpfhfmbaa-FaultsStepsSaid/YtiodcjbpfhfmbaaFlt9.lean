/- Chapter 48: states as wholes. Conditions: none. -/
import Derived.Test.YtiodcjbpfhfmbaaFlt8
namespace Go.Proofs.Ytiodcjbpfhfmbaa.Img
open Go Go.Proofs.Ytiodcjbpfhfmbaa.AI Go.Proofs
structure FS where
  x : Nat → Bool
  y : Nat → Bool
  re : Int
  tk : Int
  k : Nat
  ea : Nat → Int
  eb : Nat → Int
def FS.l (n : Nat) (s : FS) : List AV := stL n n s.x s.y s.re s.tk s.k s.ea s.eb
structure FS.ok (s : FS) : Prop where
  re : 0 ≤ s.re ∧ s.re ≤ 4
  tk : 0 ≤ s.tk ∧ s.tk ≤ 1099511627776
  k : s.k ≤ 16
def FS.zero : FS := ⟨fun _ => false, fun _ => false, 0, 0, 0, fun _ => 0, fun _ => 0⟩
theorem FS.zero_ok : FS.zero.ok := ⟨⟨by decide, by decide⟩, ⟨by decide, by decide⟩, by decide⟩
def FS.c (s : FS) (i : Nat) : Bool := s.x i || s.y i
def FS.next (n : Nat) (r : Nat → Int) (l : Nat → Bool) (s : FS) (now : Nat → Bool) (ack still : Bool) : FS :=
  ⟨now, hldF now ack s.y l, rea (wst r (fun i => now i || hldF now ack s.y l i) n) s.re still, nTk s.tk, lgC (lgN s.k (ccF now s.x) n), lgD (lgN s.k (ccF now s.x) n) (lgA s.k (ccF now s.x) s.ea (fun i => i) n), lgD (lgN s.k (ccF now s.x) n) (lgA s.k (ccF now s.x) s.eb (fun _ => nTk s.tk) n)⟩
theorem wst_le {r : Nat → Int} {c : Nat → Bool} : ∀ {n : Nat}, (∀ i, i < n → 0 ≤ r i ∧ r i ≤ 4) → wst r c n ≤ 4
  | 0, _ => by show (0 : Int) ≤ 4; decide
  | n + 1, h => by
    have := wst_le (r := r) (c := c) (n := n) (fun i hi => h i (by omega))
    have := h n (by omega)
    unfold wst; split <;> omega
theorem wst_ge {r : Nat → Int} {c : Nat → Bool} : ∀ {n i : Nat}, i < n → c i = true → r i ≤ wst r c n
  | n + 1, i, hi, hc => by
    by_cases e : i = n
    · subst e
      rw [wst, if_pos hc]; omega
    · have := wst_ge (r := r) (c := c) (n := n) (i := i) (by omega) hc
      unfold wst; split <;> omega
theorem wst_none {r : Nat → Int} {c : Nat → Bool} : ∀ {n : Nat}, (∀ i, i < n → c i = false) → wst r c n = 0
  | 0, _ => rfl
  | n + 1, h => by rw [wst, if_neg (by rw [h n (by omega)]; decide), wst_none (n := n) (fun i hi => h i (by omega))]
theorem wst_lt {r : Nat → Int} {c : Nat → Bool} : ∀ {n : Nat}, (∀ i, i < n → (c i && decide (2 ≤ r i)) = false) → wst r c n ≤ 1
  | 0, _ => by show (0 : Int) ≤ 1; decide
  | n + 1, h => by
    have := wst_lt (r := r) (c := c) (n := n) (fun i hi => h i (by omega))
    have h1 := h n (by omega)
    unfold wst
    split
    · rename_i hc
      rw [hc, Bool.true_and, decide_eq_false_iff_not] at h1
      omega
    · exact this
theorem rea_le {w re : Int} {st : Bool} (hw : w ≤ 4) (hr : re ≤ 4) : rea w re st ≤ 4 := by
  unfold rea; simp only []; split <;> split <;> omega
theorem rea_ge {w re : Int} {st : Bool} (hw : w ≤ 4) : w ≤ rea w re st := by
  unfold rea; simp only []; split <;> split <;> omega
theorem FS.next_ok {n : Nat} {r : Nat → Int} {l : Nat → Bool} {s : FS} {now : Nat → Bool} {ack still : Bool} (h : rchk n r = 0) (hs : s.ok) : (s.next n r l now ack still).ok := by
  obtain ⟨_, _, hr⟩ := rchk_zero h
  have w4 := wst_le (c := fun i => now i || hldF now ack s.y l i) hr
  have w0 := wst_nonneg r (fun i => now i || hldF now ack s.y l i) n
  refine ⟨⟨Int.le_trans w0 (rea_ge w4), rea_le w4 hs.re.2⟩, ?_, ?_⟩
  · have := hs.tk
    show 0 ≤ nTk s.tk ∧ nTk s.tk ≤ 1099511627776
    unfold nTk; omega
  · show lgC _ ≤ 16
    unfold lgC; split <;> omega
theorem FS.stp0 {n : Nat} {r : Nat → Int} {s : FS} (h : rchk n r = 0) (hs : s.ok) : stpE n r n n s.re s.tk s.k n = 0 := by
  have : tchk n r n n s.re s.tk s.k = 0 := by rw [tchk, if_pos h]; exact schk0 ⟨rfl, rfl⟩ ⟨hs.re, hs.tk⟩ (by have := hs.k; omega)
  rw [stpE, if_pos this, if_pos rfl]
def anyTo (p : Nat → Bool) : Nat → Bool
  | 0 => false
  | i + 1 => anyTo p i || p i
theorem anyTo_no {p : Nat → Bool} : ∀ {n : Nat}, anyTo p n = false → ∀ i, i < n → p i = false
  | n + 1, h, i, hi => by
    rw [anyTo, Bool.or_eq_false_iff] at h
    by_cases e : i = n
    · rw [e]; exact h.2
    · exact anyTo_no h.1 i (by omega)
theorem anyTo_yes {p : Nat → Bool} : ∀ {n : Nat}, anyTo p n = true → ∃ i, i < n ∧ p i = true
  | n + 1, h => by
    rw [anyTo, Bool.or_eq_true] at h
    rcases h with h | h
    · obtain ⟨i, h1, h2⟩ := anyTo_yes h
      exact ⟨i, by omega, h2⟩
    · exact ⟨n, by omega, h⟩
end Go.Proofs.Ytiodcjbpfhfmbaa.Img
