/- Chapter 45: a run's arguments. Conditions: none. -/
import Derived.Test.YtjmidgfkocmihaaImgH7
namespace Go.Proofs.Ytjmidgfkocmihaa.Img
open Go Go.Proofs.Ytjmidgfkocmihaa.AI Go.Proofs
def vK (f : Nat → Nat → AV) (i : Nat) : Int := asI (f i 2)
def tk3 (a b c : Nat → Int) : Nat → Nat → AV := fun i j => nth [.int .i64 (a i), .int .i64 (b i), .int .i64 (c i)] j
theorem open55 {l : List AV} (h : Arg E0 9 55 l) : ∃ nd ht am m f, l = [.int .i64 nd, .int .i64 ht, .int .i64 am, .sl 3 m f] ∧ ∀ T : TypeId, Le1 T (.sl 3 m f) (.sl 3 m (tk3 (vI f) (vJ f) (vK f))) := by
  obtain ⟨_, _, rfl, h1, _, _, rfl, h2, _, _, rfl, h3, _, _, rfl, h4, rfl⟩ := h
  obtain ⟨nd, rfl, _⟩ := openI2 h1
  obtain ⟨ht, rfl, _⟩ := openI2 h2
  obtain ⟨am, rfl, _⟩ := openI2 h3
  obtain ⟨m, f, rfl, _, hf⟩ := h4
  refine ⟨nd, ht, am, m, f, rfl, fun T => .sl rfl fun i j hi hj => .of_eq ?_⟩
  obtain ⟨_, _, e1, h1, _, _, rfl, h2, _, _, rfl, h3, rfl⟩ := hf i hi
  obtain ⟨a, rfl, _⟩ := openI2 h1
  obtain ⟨b, rfl, _⟩ := openI2 h2
  obtain ⟨c, rfl, _⟩ := openI2 h3
  have e : [f i 0, f i 1, f i 2] = [AV.int .i64 a, .int .i64 b, .int .i64 c] := e1
  injection e with e1 e2
  injection e2 with e2 e3
  injection e3 with e3 _
  match j, hj with
  | 0, _ => show f i 0 = .int .i64 (vI f i); rw [vI, e1]; rfl
  | 1, _ => show f i 1 = .int .i64 (vJ f i); rw [vJ, e2]; rfl
  | 2, _ => show f i 2 = .int .i64 (vK f i); rw [vK, e3]; rfl
theorem ldI {f : Nat → Nat → AV} {i : Nat} {b : Int} : TD.val ⟨.int .i64, 1, 8, [.int .i64 0]⟩ (updF f i 0 (AV.int .i64 b).cells i) 0 = .int .i64 b := by
  show updF f i 0 [.int .i64 b] i 0 = _
  unfold updF
  rw [show Nat.beq i i = true by simp]; rfl
theorem updI {n i : Nat} {b : Int} {x : Nat → Int} : IsI 1 n (updF (fun k _ => AV.int .i64 (x k)) i 0 [.int .i64 b]) := ⟨rfl, fun k hk => by
  unfold vI updF
  cases Nat.beq k i <;> rfl⟩
theorem updI_at {i : Nat} {b : Int} {f : Nat → Nat → AV} : vI (updF f i 0 [AV.int .i64 b]) i = b := by
  unfold vI updF
  rw [show Nat.beq i i = true by simp]; rfl
theorem updZ {n i : Nat} {b : Int} : IsI 1 n (updF (fun _ j => nth [AV.int .i64 0] j) i 0 [.int .i64 b]) := ⟨rfl, fun k hk => by
  unfold vI updF
  cases Nat.beq k i <;> rfl⟩
theorem stepErr0 {n : Nat} {c : Int} (h : c = 0) : stepErr c n n n = 0 := by rw [stepErr, if_pos h, if_pos ⟨rfl, rfl⟩]
theorem okI0 {c x : Int} (h : c = 0) : okI c x = x := if_pos h
theorem pow_le {p q x : Int} {f : Nat → Nat → AV} {i : Nat} (hx : x = wr (max 0 (min p 1073741824) + max 0 (min q 1073741824))) : pC (vI (updF f i 0 [AV.int .i64 (max 0 (min p 1073741824))]) i) ≤ pC x := by
  rw [updI_at, hx, wr_id (by omega) (by omega)]
  unfold pC
  omega
end Go.Proofs.Ytjmidgfkocmihaa.Img
