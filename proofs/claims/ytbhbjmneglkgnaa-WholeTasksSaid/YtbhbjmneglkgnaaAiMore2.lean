/- Slices of truth values, of pairs; conditions that hold somewhere. Conditions: none. -/
import Derived.Test.YtbhbjmneglkgnaaAiMore
namespace Go.Proofs.Ytbhbjmneglkgnaa.AI
open Go
variable {T : TypeId}
theorem le1_nil {sz n : Nat} {f : Nat → Nat → AV} (h : n = 0) : Le1 T .nilS (.sl sz n f) := by
  subst h
  intro I w ρ v hv
  simp only [Rep1] at hv ⊢
  exact ⟨none, 0, hv, Nat.le_refl _, Nat.zero_le _, fun h => absurd h (by omega)⟩
theorem renI {k : IntKind} {x y : Int} (h : x = y) : AV.int k x = .int k y ∧ idFree (.int k y) = true := ⟨by rw [h], rfl⟩
theorem renS {z n m : Nat} {f g : Nat → Nat → AV} (h : n = m) (hf : f = g) : AV.sl z n f = .sl z m g ∧ idFree (.sl z m g) = true := ⟨by rw [h, hf], rfl⟩
theorem anyP_hit {p : Nat → Bool} {n i : Nat} (hi : i < n) (h : p i = true) : anyP p (n - i) i = true := by
  obtain ⟨k, hk⟩ : ∃ k, n - i = k + 1 := ⟨n - i - 1, by omega⟩
  rw [hk, anyP, h, Bool.true_or]
theorem anyP_miss {p : Nat → Bool} {n i : Nat} (hi : i < n) (h : p i = false) : anyP p (n - i) i = anyP p (n - (i + 1)) (i + 1) := by
  obtain ⟨k, hk⟩ : ∃ k, n - i = k + 1 := ⟨n - i - 1, by omega⟩
  rw [hk, anyP, h, Bool.false_or, show n - (i + 1) = k by omega]
theorem anyP_no {p : Nat → Bool} {n : Nat} (h : anyP p n 0 = false) : ∀ j, j < n → p j = false := by
  have : ∀ k i, anyP p k i = false → ∀ j, i ≤ j → j < i + k → p j = false := fun k => by
    induction k with
    | zero => intro i _ j h1 h2; omega
    | succ k ih =>
      intro i h j h1 h2
      rw [anyP, Bool.or_eq_false_iff] at h
      by_cases e : j = i
      · rw [e]; exact h.1
      · exact ih (i + 1) h.2 j (by omega) (by omega)
  exact fun j hj => this n 0 h j (by omega) (by omega)
theorem no_anyP {p : Nat → Bool} {n : Nat} (h : ∀ j, j < n → p j = false) : anyP p n 0 = false := by
  have : ∀ k i, i + k ≤ n → anyP p k i = false := fun k => by
    induction k with
    | zero => exact fun _ _ => rfl
    | succ k ih => intro i hi; rw [anyP, h i (by omega), ih (i + 1) (by omega)]; rfl
  exact this n 0 (by omega)
def zN (c : Int) (n : Nat) : Nat := if c = 0 then n else 0
def zI (c x : Int) : Int := if c = 0 then x else 0
theorem zI0 {c x : Int} (h : c = 0) : zI c x = x := if_pos h
theorem zI1 {c x : Int} (h : ¬ c = 0) : zI c x = 0 := if_neg h
theorem zN0 {c : Int} {n : Nat} (h : c = 0) : zN c n = n := if_pos h
theorem zN1 {c : Int} {n : Nat} (h : ¬ c = 0) : zN c n = 0 := if_neg h
theorem zN_le {c : Int} {n k : Nat} (h : c = 0 → n ≤ k) : zN c n ≤ k := by
  unfold zN; split
  · rename_i hc; exact h hc
  · exact Nat.zero_le _
/-- Slices of truth values. -/
def bitF (x : Nat → Bool) : Nat → Nat → AV := fun i _ => .bit (x i)
def BAV : AV → Prop
  | .sl s n f => IsB s n f
  | .nilS => True
  | _ => False
theorem BAV.le {v : AV} (h : BAV v) : Le1 T v (.sl 1 (slN v) (bitF (vB (slF v)))) := by
  cases v with
  | sl s n f =>
    obtain ⟨rfl, h⟩ := h
    exact .sl rfl fun i j hi hj => .of_eq (by have : j = 0 := by omega
                                              subst this; exact h i hi)
  | nilS => exact le1_nil rfl
  | _ => exact h.elim
theorem isB_mk {n : Nat} {x : Nat → Bool} : IsB 1 n (bitF x) := ⟨rfl, fun _ _ => rfl⟩
/-- Pairs: a number and a truth value; two numbers. -/
def vL (f : Nat → Nat → AV) (i : Nat) : Bool := asB (f i 1)
def vJ (f : Nat → Nat → AV) (i : Nat) : Int := asI (f i 1)
def rulF (r : Nat → Int) (l : Nat → Bool) : Nat → Nat → AV := fun i j => nth [.int .i64 (r i), .bit (l i)] j
def evnF (a b : Nat → Int) : Nat → Nat → AV := fun i j => nth [.int .i64 (a i), .int .i64 (b i)] j
structure IsR (s n : Nat) (f : Nat → Nat → AV) : Prop where
  s : s = 2
  f : ∀ i, i < n → f i 0 = .int .i64 (vI f i) ∧ f i 1 = .bit (vL f i)
structure IsE (s n : Nat) (f : Nat → Nat → AV) : Prop where
  s : s = 2
  f : ∀ i, i < n → f i 0 = .int .i64 (vI f i) ∧ f i 1 = .int .i64 (vJ f i)
theorem isR_mk {n : Nat} {r : Nat → Int} {l : Nat → Bool} : IsR 2 n (rulF r l) := ⟨rfl, fun _ _ => ⟨rfl, rfl⟩⟩
theorem isE_mk {n : Nat} {a b : Nat → Int} : IsE 2 n (evnF a b) := ⟨rfl, fun _ _ => ⟨rfl, rfl⟩⟩
theorem IsR.le1 {s n : Nat} {f : Nat → Nat → AV} (h : IsR s n f) : Le1 T (.sl s n f) (.sl 2 n (rulF (vI f) (vL f))) := by
  obtain ⟨rfl, h⟩ := h
  refine .sl rfl fun i j hi hj => .of_eq ?_
  match j, hj with
  | 0, _ => exact (h i hi).1
  | 1, _ => exact (h i hi).2
theorem IsE.le1 {s n : Nat} {f : Nat → Nat → AV} (h : IsE s n f) : Le1 T (.sl s n f) (.sl 2 n (evnF (vI f) (vJ f))) := by
  obtain ⟨rfl, h⟩ := h
  refine .sl rfl fun i j hi hj => .of_eq ?_
  match j, hj with
  | 0, _ => exact (h i hi).1
  | 1, _ => exact (h i hi).2
theorem AVle2.of1 {a b : AV} (ha : ∀ I w v, Rep2 T I w noPl a v → Rep1 T I w noPl a v) (hb : ∀ I w v, Rep1 T I w noPl b v → Rep2 T I w noPl b v) (h : Le1 T a b) : AVle2 T a b := fun I w v hv => hb I w v (h I w noPl v (ha I w v hv))
theorem le2_sl {s n s' n' : Nat} {f g : Nat → Nat → AV} (h : Le1 T (.sl s n f) (.sl s' n' g)) : AVle2 T (.sl s n f) (.sl s' n' g) := fun I w v hv => by
  simp only [Rep2] at hv ⊢
  exact h I w noPl v hv
def EAV : AV → Prop
  | .sl s n f => IsE s n f
  | .nilS => True
  | _ => False
theorem EAV.le {v : AV} (h : EAV v) : Le1 T v (.sl 2 (slN v) (evnF (vI (slF v)) (vJ (slF v)))) := by
  cases v with
  | sl s n f => exact IsE.le1 h
  | nilS => exact le1_nil rfl
  | _ => exact h.elim
end Go.Proofs.Ytbhbjmneglkgnaa.AI
