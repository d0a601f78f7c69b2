/- Chapter 44: the reference's signals, Reset. Conditions: none. -/
import Derived.Test.YtalppnldnahmbaaTrp4
namespace Go.Proofs.Ytalppnldnahmbaa.Img
open Go Go.Proofs.Ytalppnldnahmbaa.AI Go.Proofs
noncomputable section
set_option maxRecDepth 100000
theorem outB_ovr (cu x : Int) : outB x (wr (0 - cu)) cu = ovr cu x := by
  unfold outB ovr
  exact Bool.or_comm _ _
theorem ok34 : EntOK Try.prog TE 34 sOver := by
  refine ⟨callable_of Try.func34 (by kernel_rfl), fun args => ?_⟩
  unfold sOver
  split
  · rename_i cu q1 q2 q3 q4 q5 x0 x1 x2 l d0 d1 d2 d3 d4 d5
    refine fn_ofF tabsOK (specOK_cons ok29 specOK_nil) mixed Try.func34 (by kernel_rfl) ?_
    have hit : ∀ i, i < 3 → ovr cu (three x0 x1 x2 i) = true → true = over3 cu x0 x1 x2 := fun i hi h => by
      match i, hi with
      | 0, _ => rw [over3, show ovr cu x0 = true from h]; rfl
      | 1, _ => rw [over3, show ovr cu x1 = true from h]; cases ovr cu x0 <;> rfl
      | 2, _ => rw [over3, show ovr cu x2 = true from h]; cases ovr cu x0 <;> cases ovr cu x1 <;> rfl
    refine LoopOK.mk ⟨{ i : Nat // i ≤ 3 ∧ ∀ j, j < i → ovr cu (three x0 x1 x2 j) = false }, fun i => mkSt [(2, .loc 2 0), (3, .loc 3 0), (5, .int .i64 i.1)]
      [(2, ⟨23, 6, 1, fun _ j => nth [.int .i64 cu, .int .i64 q1, .int .i64 q2, .int .i64 q3, .int .i64 q4, .int .i64 q5] j, 0, true⟩), (3, ⟨36, 10, 1, fun _ j => nth [.int .i64 x0, .int .i64 x1, .int .i64 x2, .int .i64 l, .bit d0, .bit d1, .bit d2, .bit d3, .bit d4, .bit d5] j, 0, true⟩)],
      fun i => 3 - i.1, ⟨⟨0, by omega, fun j hj => absurd hj (Nat.not_lt_zero _)⟩, ?_⟩, ?_⟩
    · refine wk_of [(2, some 2), (3, some 3)] rfl ⟨rfl, rfl, ⟨rfl, rfl⟩, trivial⟩ ⟨RowLe.fin rfl rfl rfl rfl rfl ?_, RowLe.fin rfl rfl rfl rfl rfl ?_, trivial⟩
      all_goals (repeat' first | exact trivial | exact ⟨by kernel_rfl, by kernel_rfl⟩ | exact Or.inr (by kernel_rfl) | refine ⟨?_, ?_⟩)
    rintro ⟨i, hi, hinv⟩
    have hc : i = 0 ∨ i = 1 ∨ i = 2 ∨ i = 3 := by omega
    rcases hc with rfl | rfl | rfl | rfl
    · refine Brn.mk (fun _ => ?_) (fun h => absurd (show ¬ ((0 : Nat) : Int) < 3 from of_decide_eq_false h) (by decide))
      refine Chk.mk (show (0 : Int) ≤ ((0 : Nat) : Int) ∧ ((0 : Nat) : Int) < ((3 : Nat) : Int) by decide) ?_
      refine Brn.mk (fun h => AVle.bit (hit 0 (by decide) ?_)) (fun h => ?_)
      · have h : (!!outB x0 (wr (0 - cu)) cu) = true := h
        rw [Bool.not_not, outB_ovr] at h
        exact h
      have h : (!!outB x0 (wr (0 - cu)) cu) = false := h
      rw [Bool.not_not, outB_ovr] at h
      refine ⟨⟨1, by decide, fun j hj => ?_⟩, by show 3 - 1 < 3 - 0; decide, ?_⟩
      · rcases Nat.lt_succ_iff_lt_or_eq.1 hj with h1 | h1
        · exact hinv j h1
        · subst h1; exact h
      refine wk_of [(2, some 2), (3, some 3)] rfl ⟨rfl, rfl, ⟨wrS (i := 0) (by decide), rfl⟩, trivial⟩ ⟨RowLe.fin rfl rfl rfl rfl rfl ?_, RowLe.fin rfl rfl rfl rfl rfl ?_, trivial⟩
      all_goals (repeat' first | exact trivial | exact ⟨by kernel_rfl, by kernel_rfl⟩ | exact Or.inr (by kernel_rfl) | refine ⟨?_, ?_⟩)
    · refine Brn.mk (fun _ => ?_) (fun h => absurd (show ¬ ((1 : Nat) : Int) < 3 from of_decide_eq_false h) (by decide))
      refine Chk.mk (show (0 : Int) ≤ ((1 : Nat) : Int) ∧ ((1 : Nat) : Int) < ((3 : Nat) : Int) by decide) ?_
      refine Brn.mk (fun h => AVle.bit (hit 1 (by decide) ?_)) (fun h => ?_)
      · have h : (!!outB x1 (wr (0 - cu)) cu) = true := h
        rw [Bool.not_not, outB_ovr] at h
        exact h
      have h : (!!outB x1 (wr (0 - cu)) cu) = false := h
      rw [Bool.not_not, outB_ovr] at h
      refine ⟨⟨2, by decide, fun j hj => ?_⟩, by show 3 - 2 < 3 - 1; decide, ?_⟩
      · rcases Nat.lt_succ_iff_lt_or_eq.1 hj with h1 | h1
        · exact hinv j h1
        · subst h1; exact h
      refine wk_of [(2, some 2), (3, some 3)] rfl ⟨rfl, rfl, ⟨wrS (i := 1) (by decide), rfl⟩, trivial⟩ ⟨RowLe.fin rfl rfl rfl rfl rfl ?_, RowLe.fin rfl rfl rfl rfl rfl ?_, trivial⟩
      all_goals (repeat' first | exact trivial | exact ⟨by kernel_rfl, by kernel_rfl⟩ | exact Or.inr (by kernel_rfl) | refine ⟨?_, ?_⟩)
    · refine Brn.mk (fun _ => ?_) (fun h => absurd (show ¬ ((2 : Nat) : Int) < 3 from of_decide_eq_false h) (by decide))
      refine Chk.mk (show (0 : Int) ≤ ((2 : Nat) : Int) ∧ ((2 : Nat) : Int) < ((3 : Nat) : Int) by decide) ?_
      refine Brn.mk (fun h => AVle.bit (hit 2 (by decide) ?_)) (fun h => ?_)
      · have h : (!!outB x2 (wr (0 - cu)) cu) = true := h
        rw [Bool.not_not, outB_ovr] at h
        exact h
      have h : (!!outB x2 (wr (0 - cu)) cu) = false := h
      rw [Bool.not_not, outB_ovr] at h
      refine ⟨⟨3, by decide, fun j hj => ?_⟩, by show 3 - 3 < 3 - 2; decide, ?_⟩
      · rcases Nat.lt_succ_iff_lt_or_eq.1 hj with h1 | h1
        · exact hinv j h1
        · subst h1; exact h
      refine wk_of [(2, some 2), (3, some 3)] rfl ⟨rfl, rfl, ⟨wrS (i := 2) (by decide), rfl⟩, trivial⟩ ⟨RowLe.fin rfl rfl rfl rfl rfl ?_, RowLe.fin rfl rfl rfl rfl rfl ?_, trivial⟩
      all_goals (repeat' first | exact trivial | exact ⟨by kernel_rfl, by kernel_rfl⟩ | exact Or.inr (by kernel_rfl) | refine ⟨?_, ?_⟩)
    · refine Brn.mk (fun h => absurd (show ((3 : Nat) : Int) < 3 from of_decide_eq_true h) (by decide)) (fun _ => AVle.bit ?_)
      have a0 : ovr cu x0 = false := hinv 0 (by decide)
      have a1 : ovr cu x1 = false := hinv 1 (by decide)
      have a2 : ovr cu x2 = false := hinv 2 (by decide)
      rw [over3, a0, a1, a2]; rfl
  · trivial
theorem ok35 : EntOK Try.prog TE 35 sDes := by
  refine ⟨callable_of Try.func35 (by kernel_rfl), fun args => ?_⟩
  unfold sDes
  split
  · rename_i x0 x1 x2 l a b c d e f
    refine fn_ofF tabsOK specOK_nil mixed Try.func35 (by kernel_rfl) ?_
    have hit : ∀ i, i < 6 → six a b c d e f i = true → true = any6 a b c d e f := fun i hi h => by
      match i, hi with
      | 0, _ => rw [show a = true from h]; rfl
      | 1, _ => rw [show b = true from h]; cases a <;> rfl
      | 2, _ => rw [show c = true from h]; cases a <;> cases b <;> rfl
      | 3, _ => rw [show d = true from h]; cases a <;> cases b <;> cases c <;> rfl
      | 4, _ => rw [show e = true from h]; cases a <;> cases b <;> cases c <;> cases d <;> rfl
      | 5, _ => rw [show f = true from h]; cases a <;> cases b <;> cases c <;> cases d <;> cases e <;> rfl
    refine LoopOK.mk ⟨{ i : Nat // i ≤ 6 ∧ ∀ j, j < i → six a b c d e f j = false }, fun i => mkSt [(1, .loc 1 0), (3, .int .i64 i.1)]
      [(1, ⟨36, 10, 1, fun _ j => nth [.int .i64 x0, .int .i64 x1, .int .i64 x2, .int .i64 l, .bit a, .bit b, .bit c, .bit d, .bit e, .bit f] j, 0, true⟩)],
      fun i => 6 - i.1, ⟨⟨0, by omega, fun j hj => absurd hj (Nat.not_lt_zero _)⟩, ?_⟩, ?_⟩
    · refine wk_of [(1, some 1)] rfl ⟨rfl, ⟨rfl, rfl⟩, trivial⟩ ⟨RowLe.fin rfl rfl rfl rfl rfl ?_, trivial⟩
      all_goals (repeat' first | exact trivial | exact ⟨by kernel_rfl, by kernel_rfl⟩ | exact Or.inr (by kernel_rfl) | refine ⟨?_, ?_⟩)
    rintro ⟨i, hi, hinv⟩
    have hc : i = 0 ∨ i = 1 ∨ i = 2 ∨ i = 3 ∨ i = 4 ∨ i = 5 ∨ i = 6 := by omega
    rcases hc with rfl | rfl | rfl | rfl | rfl | rfl | rfl
    · refine Brn.mk (fun _ => ?_) (fun h => absurd (show ¬ ((0 : Nat) : Int) < 6 from of_decide_eq_false h) (by decide))
      refine Chk.mk (show (0 : Int) ≤ ((0 : Nat) : Int) ∧ ((0 : Nat) : Int) < ((6 : Nat) : Int) by decide) ?_
      refine Brn.mk (fun h => AVle.bit (hit 0 (by decide) h)) (fun h => ?_)
      refine ⟨⟨1, by decide, fun j hj => ?_⟩, by show 6 - 1 < 6 - 0; decide, ?_⟩
      · rcases Nat.lt_succ_iff_lt_or_eq.1 hj with h1 | h1
        · exact hinv j h1
        · subst h1; exact h
      refine wk_of [(1, some 1)] rfl ⟨rfl, ⟨wrS (i := 0) (by decide), rfl⟩, trivial⟩ ⟨RowLe.fin rfl rfl rfl rfl rfl ?_, trivial⟩
      all_goals (repeat' first | exact trivial | exact ⟨by kernel_rfl, by kernel_rfl⟩ | exact Or.inr (by kernel_rfl) | refine ⟨?_, ?_⟩)
    · refine Brn.mk (fun _ => ?_) (fun h => absurd (show ¬ ((1 : Nat) : Int) < 6 from of_decide_eq_false h) (by decide))
      refine Chk.mk (show (0 : Int) ≤ ((1 : Nat) : Int) ∧ ((1 : Nat) : Int) < ((6 : Nat) : Int) by decide) ?_
      refine Brn.mk (fun h => AVle.bit (hit 1 (by decide) h)) (fun h => ?_)
      refine ⟨⟨2, by decide, fun j hj => ?_⟩, by show 6 - 2 < 6 - 1; decide, ?_⟩
      · rcases Nat.lt_succ_iff_lt_or_eq.1 hj with h1 | h1
        · exact hinv j h1
        · subst h1; exact h
      refine wk_of [(1, some 1)] rfl ⟨rfl, ⟨wrS (i := 1) (by decide), rfl⟩, trivial⟩ ⟨RowLe.fin rfl rfl rfl rfl rfl ?_, trivial⟩
      all_goals (repeat' first | exact trivial | exact ⟨by kernel_rfl, by kernel_rfl⟩ | exact Or.inr (by kernel_rfl) | refine ⟨?_, ?_⟩)
    · refine Brn.mk (fun _ => ?_) (fun h => absurd (show ¬ ((2 : Nat) : Int) < 6 from of_decide_eq_false h) (by decide))
      refine Chk.mk (show (0 : Int) ≤ ((2 : Nat) : Int) ∧ ((2 : Nat) : Int) < ((6 : Nat) : Int) by decide) ?_
      refine Brn.mk (fun h => AVle.bit (hit 2 (by decide) h)) (fun h => ?_)
      refine ⟨⟨3, by decide, fun j hj => ?_⟩, by show 6 - 3 < 6 - 2; decide, ?_⟩
      · rcases Nat.lt_succ_iff_lt_or_eq.1 hj with h1 | h1
        · exact hinv j h1
        · subst h1; exact h
      refine wk_of [(1, some 1)] rfl ⟨rfl, ⟨wrS (i := 2) (by decide), rfl⟩, trivial⟩ ⟨RowLe.fin rfl rfl rfl rfl rfl ?_, trivial⟩
      all_goals (repeat' first | exact trivial | exact ⟨by kernel_rfl, by kernel_rfl⟩ | exact Or.inr (by kernel_rfl) | refine ⟨?_, ?_⟩)
    · refine Brn.mk (fun _ => ?_) (fun h => absurd (show ¬ ((3 : Nat) : Int) < 6 from of_decide_eq_false h) (by decide))
      refine Chk.mk (show (0 : Int) ≤ ((3 : Nat) : Int) ∧ ((3 : Nat) : Int) < ((6 : Nat) : Int) by decide) ?_
      refine Brn.mk (fun h => AVle.bit (hit 3 (by decide) h)) (fun h => ?_)
      refine ⟨⟨4, by decide, fun j hj => ?_⟩, by show 6 - 4 < 6 - 3; decide, ?_⟩
      · rcases Nat.lt_succ_iff_lt_or_eq.1 hj with h1 | h1
        · exact hinv j h1
        · subst h1; exact h
      refine wk_of [(1, some 1)] rfl ⟨rfl, ⟨wrS (i := 3) (by decide), rfl⟩, trivial⟩ ⟨RowLe.fin rfl rfl rfl rfl rfl ?_, trivial⟩
      all_goals (repeat' first | exact trivial | exact ⟨by kernel_rfl, by kernel_rfl⟩ | exact Or.inr (by kernel_rfl) | refine ⟨?_, ?_⟩)
    · refine Brn.mk (fun _ => ?_) (fun h => absurd (show ¬ ((4 : Nat) : Int) < 6 from of_decide_eq_false h) (by decide))
      refine Chk.mk (show (0 : Int) ≤ ((4 : Nat) : Int) ∧ ((4 : Nat) : Int) < ((6 : Nat) : Int) by decide) ?_
      refine Brn.mk (fun h => AVle.bit (hit 4 (by decide) h)) (fun h => ?_)
      refine ⟨⟨5, by decide, fun j hj => ?_⟩, by show 6 - 5 < 6 - 4; decide, ?_⟩
      · rcases Nat.lt_succ_iff_lt_or_eq.1 hj with h1 | h1
        · exact hinv j h1
        · subst h1; exact h
      refine wk_of [(1, some 1)] rfl ⟨rfl, ⟨wrS (i := 4) (by decide), rfl⟩, trivial⟩ ⟨RowLe.fin rfl rfl rfl rfl rfl ?_, trivial⟩
      all_goals (repeat' first | exact trivial | exact ⟨by kernel_rfl, by kernel_rfl⟩ | exact Or.inr (by kernel_rfl) | refine ⟨?_, ?_⟩)
    · refine Brn.mk (fun _ => ?_) (fun h => absurd (show ¬ ((5 : Nat) : Int) < 6 from of_decide_eq_false h) (by decide))
      refine Chk.mk (show (0 : Int) ≤ ((5 : Nat) : Int) ∧ ((5 : Nat) : Int) < ((6 : Nat) : Int) by decide) ?_
      refine Brn.mk (fun h => AVle.bit (hit 5 (by decide) h)) (fun h => ?_)
      refine ⟨⟨6, by decide, fun j hj => ?_⟩, by show 6 - 6 < 6 - 5; decide, ?_⟩
      · rcases Nat.lt_succ_iff_lt_or_eq.1 hj with h1 | h1
        · exact hinv j h1
        · subst h1; exact h
      refine wk_of [(1, some 1)] rfl ⟨rfl, ⟨wrS (i := 5) (by decide), rfl⟩, trivial⟩ ⟨RowLe.fin rfl rfl rfl rfl rfl ?_, trivial⟩
      all_goals (repeat' first | exact trivial | exact ⟨by kernel_rfl, by kernel_rfl⟩ | exact Or.inr (by kernel_rfl) | refine ⟨?_, ?_⟩)
    · refine Brn.mk (fun h => absurd (show ((6 : Nat) : Int) < 6 from of_decide_eq_true h) (by decide)) (fun _ => AVle.bit ?_)
      have a0 : a = false := hinv 0 (by decide)
      have a1 : b = false := hinv 1 (by decide)
      have a2 : c = false := hinv 2 (by decide)
      have a3 : d = false := hinv 3 (by decide)
      have a4 : e = false := hinv 4 (by decide)
      have a5 : f = false := hinv 5 (by decide)
      rw [a0, a1, a2, a3, a4, a5]; rfl
  · trivial
/-- May a trip not be ended? -/
def rstE (lo hi : Int) (ov ds : Bool) (l : Int) : Int := if ov = true ∨ ds = true ∨ l < lo ∨ hi < l then 12 else 0
def sRstR : Sp
  | [.agg [.int .i64 cu, .int .i64 lo, .int .i64 hi, .int .i64 _, .int .i64 _, .int .i64 _], .agg [.int .i64 x0, .int .i64 x1, .int .i64 x2, .int .i64 l, .bit d0, .bit d1, .bit d2, .bit d3, .bit d4, .bit d5]] =>
    .ok (.int .i64 (rstE lo hi (over3 cu x0 x1 x2) (any6 d0 d1 d2 d3 d4 d5) l))
  | _ => .no
theorem ok21 : EntOK Try.prog TE 21 sRstR := by
  refine ⟨callable_of Try.func21 (by kernel_rfl), fun args => ?_⟩
  unfold sRstR
  split
  · refine fn_ofF tabsOK (specOK_cons ok34 (specOK_cons ok35 specOK_nil)) mixed Try.func21 (by kernel_rfl) ?_
    refine Brn.mk (fun h => AVle.int ?_) (fun h1 => ?_)
    · rw [rstE, if_pos (.inl h)]
    refine Brn.mk (fun h => AVle.int ?_) (fun h2 => ?_)
    · rw [rstE, if_pos (.inr (.inl h))]
    refine Brn.mk (fun h => AVle.int ?_) (fun h3 => ?_)
    · rw [rstE, if_pos (.inr (.inr (.inl (of_decide_eq_true h))))]
    refine Brn.mk (fun h => AVle.int ?_) (fun h4 => AVle.int ?_)
    · rw [rstE, if_pos (.inr (.inr (.inr (of_decide_eq_true h))))]
    · rw [rstE, if_neg]
      rintro (h | h | h | h)
      · rw [h1] at h; cases h
      · rw [h2] at h; cases h
      · exact of_decide_eq_false h3 h
      · exact of_decide_eq_false h4 h
  · trivial
def rstP (c e : Int) : Int := if c = 0 then e else c
def sRst : Sp
  | [.agg [.int .i64 cu, .int .i64 lo, .int .i64 hi, .int .i64 re, .int .i64 lt, .int .i64 ht], .agg [.int .i64 _, .int .i64 _, .int .i64 _, .int .i64 _, .bit _], .agg [.int .i64 x0, .int .i64 x1, .int .i64 x2, .int .i64 l, .bit d0, .bit d1, .bit d2, .bit d3, .bit d4, .bit d5]] =>
    .ok (.tup [.agg [.int .i64 0, .int .i64 0, .int .i64 0, .int .i64 0, .bit false], .err (rstP (tchk cu lo hi re lt ht) (rstE lo hi (over3 cu x0 x1 x2) (any6 d0 d1 d2 d3 d4 d5) l))])
  | _ => .no
theorem ok20 : EntOK Try.prog TE 20 sRst := by
  refine ⟨callable_of Try.func20 (by kernel_rfl), fun args => ?_⟩
  unfold sRst
  split
  · refine fn_ofF tabsOK (specOK_cons ok14 (specOK_cons ok36 (specOK_cons ok37 specOK_nil))) mixed Try.func20 (by kernel_rfl) ?_
    refine Brn.mk (fun h0 => ?_) (fun h0 => ?_)
    · refine AVle.tup2 (.agg rfl) (.err ?_)
      rw [rstP, if_neg (ndT h0)]
    have h0 := ndF h0
    refine Brn.mk (fun h => Chk.mk (by decide) (AVle.tup2 (.agg rfl) (.err ?_))) (fun h1 => ?_)
    · rw [rstP, if_pos h0, rstE, if_pos (.inl h)]
    refine Brn.mk (fun h => Chk.mk (by decide) (AVle.tup2 (.agg rfl) (.err ?_))) (fun h2 => ?_)
    · rw [rstP, if_pos h0, rstE, if_pos (.inr (.inl h))]
    refine Brn.mk (fun h => Chk.mk (by decide) (AVle.tup2 (.agg rfl) (.err ?_))) (fun h3 => ?_)
    · rw [rstP, if_pos h0, rstE, if_pos (.inr (.inr (.inl (of_decide_eq_true h))))]
    refine Brn.mk (fun h => Chk.mk (by decide) (AVle.tup2 (.agg rfl) (.err ?_))) (fun h4 => ?_)
    · rw [rstP, if_pos h0, rstE, if_pos (.inr (.inr (.inr (of_decide_eq_true h))))]
    · refine AVle.tup2 (.agg rfl) (.nilErr ?_)
      rw [rstP, if_pos h0, rstE, if_neg]
      rintro (h | h | h | h)
      · rw [h1] at h; cases h
      · rw [h2] at h; cases h
      · exact of_decide_eq_false h3 h
      · exact of_decide_eq_false h4 h
  · trivial
end
end Go.Proofs.Ytalppnldnahmbaa.Img
