/- Chapter 44: inputs and states that are handed. Conditions: none. -/
import Derived.Test.YtalppnldnahmbaaTrp3
namespace Go.Proofs.Ytalppnldnahmbaa.Img
open Go Go.Proofs.Ytalppnldnahmbaa.AI Go.Proofs
noncomputable section
set_option maxRecDepth 100000
/-- An input's cells. -/
structure TI where
  x0 : Int
  x1 : Int
  x2 : Int
  l : Int
  d0 : Bool
  d1 : Bool
  d2 : Bool
  d3 : Bool
  d4 : Bool
  d5 : Bool
def TI.c (x : TI) : List AV := [.int .i64 x.x0, .int .i64 x.x1, .int .i64 x.x2, .int .i64 x.l, .bit x.d0, .bit x.d1, .bit x.d2, .bit x.d3, .bit x.d4, .bit x.d5]
theorem openTI {l : List AV} {d : Nat} (h : Arg E0 (d + 3) 36 l) : ∃ x : TI, l = x.c ∧ InR x.x0 ∧ InR x.x1 ∧ InR x.x2 ∧ InR x.l := by
  obtain ⟨_, _, rfl, ⟨_, _, rfl, a0, _, _, rfl, a1, _, _, rfl, a2, rfl⟩, _, _, rfl, b, _, _, rfl, ⟨_, _, rfl, c0, _, _, rfl, c1, _, _, rfl, c2, _, _, rfl, c3, _, _, rfl, c4, _, _, rfl, c5, rfl⟩, rfl⟩ := h
  obtain ⟨x0, rfl, p0⟩ := openI a0
  obtain ⟨x1, rfl, p1⟩ := openI a1
  obtain ⟨x2, rfl, p2⟩ := openI a2
  obtain ⟨l, rfl, p3⟩ := openI b
  obtain ⟨d0, rfl⟩ := openB c0
  obtain ⟨d1, rfl⟩ := openB c1
  obtain ⟨d2, rfl⟩ := openB c2
  obtain ⟨d3, rfl⟩ := openB c3
  obtain ⟨d4, rfl⟩ := openB c4
  obtain ⟨d5, rfl⟩ := openB c5
  exact ⟨⟨x0, x1, x2, l, d0, d1, d2, d3, d4, d5⟩, rfl, p0, p1, p2, p3⟩
theorem openTS {l : List AV} {d : Nat} (h : Arg E0 (d + 2) 32 l) : ∃ s : TS, l = s.l ∧ InR s.a ∧ InR s.b ∧ InR s.c ∧ InR s.d := by
  obtain ⟨_, _, rfl, h1, _, _, rfl, h2, _, _, rfl, h3, _, _, rfl, h4, _, _, rfl, h5, rfl⟩ := h
  obtain ⟨a, rfl, p1⟩ := openI h1
  obtain ⟨b, rfl, p2⟩ := openI h2
  obtain ⟨c, rfl, p3⟩ := openI h3
  obtain ⟨d, rfl, p4⟩ := openI h4
  obtain ⟨o, rfl⟩ := openB h5
  exact ⟨⟨a, b, c, d, o⟩, rfl, p1, p2, p3, p4⟩
/-- A slice of inputs. -/
theorem openTIs {l : List AV} {d : Nat} (h : Arg E0 (d + 4) 41 l) : ∃ k f, ∃ x : Nat → TI, l = [.sl 10 k f] ∧ (∀ i j, i < k → j < 10 → f i j = nth (x i).c j) ∧ ∀ i, i < k → InR (x i).x0 ∧ InR (x i).x1 ∧ InR (x i).x2 ∧ InR (x i).l := by
  obtain ⟨k, f, rfl, hk, hf⟩ := h
  have hz : ∀ i, ∃ x : TI, i < k → (∀ j, j < 10 → f i j = nth x.c j) ∧ InR x.x0 ∧ InR x.x1 ∧ InR x.x2 ∧ InR x.l := fun i => by
    by_cases hi : i < k
    · obtain ⟨x, h1, h2⟩ := openTI (hf i hi)
      refine ⟨x, fun _ => ⟨fun j hj => ?_, h2⟩⟩
      rw [← h1]
      have e : takeF (f i) 0 (szOf E0 36) = [f i 0, f i 1, f i 2, f i 3, f i 4, f i 5, f i 6, f i 7, f i 8, f i 9] := rfl
      rw [e]
      match j, hj with
      | 0, _ => rfl
      | 1, _ => rfl
      | 2, _ => rfl
      | 3, _ => rfl
      | 4, _ => rfl
      | 5, _ => rfl
      | 6, _ => rfl
      | 7, _ => rfl
      | 8, _ => rfl
      | 9, _ => rfl
    · exact ⟨⟨0, 0, 0, 0, false, false, false, false, false, false⟩, fun h => absurd h hi⟩
  refine ⟨k, f, fun i => Classical.choose (hz i), rfl, fun i j hi hj => ((Classical.choose_spec (hz i)) hi).1 j hj, fun i hi => ((Classical.choose_spec (hz i)) hi).2⟩
theorem tis_le {T : TypeId} {k : Nat} {f : Nat → Nat → AV} {x : Nat → TI} (h : ∀ i j, i < k → j < 10 → f i j = nth (x i).c j) : AVle2 T (.sl 10 k f) (.sl 10 k fun i j => nth (x i).c j) :=
  .slL rfl fun i j hi hj => .of_eq (h i j hi hj)
/-- A tick by an input. -/
def tstepI (cu lo hi re lt ht : Int) (s : TS) (x : TI) : TS := tstep cu lo hi re lt ht s x.x0 x.x1 x.x2 x.l (any6 x.d0 x.d1 x.d2 x.d3 x.d4 x.d5)

theorem clip_range {n lo hi : Int} (h : lo ≤ hi) : lo ≤ clip n lo hi ∧ clip n lo hi ≤ hi := by unfold clip; omega
theorem tcause_range (ov ds : Bool) (c d lt ht : Int) : 0 ≤ tcause ov ds c d lt ht ∧ tcause ov ds c d lt ht ≤ 4 := by
  unfold tcause
  repeat' split
  all_goals omega
theorem tchk_zero {cu lo hi re lt ht : Int} (h : tchk cu lo hi re lt ht = 0) : (0 ≤ cu ∧ cu ≤ 2097152) ∧ (0 ≤ lo ∧ lo < hi ∧ hi ≤ 1048576) ∧ (0 ≤ re ∧ re ≤ 64) ∧ (1 ≤ lt ∧ lt ≤ 4096) ∧ (1 ≤ ht ∧ ht ≤ 4096) := by
  unfold tchk at h
  split at h
  · cases h
  · rename_i h1
    split at h
    · cases h
    · simp only [not_or, outB, Bool.or_eq_true, decide_eq_true_eq] at h1
      omega
end
end Go.Proofs.Ytalppnldnahmbaa.Img
