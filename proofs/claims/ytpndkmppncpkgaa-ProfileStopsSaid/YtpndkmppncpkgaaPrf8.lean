/- Chapter 37: a filter: check, lists moved, sums. Conditions: none. -/
import Derived.Test.YtpndkmppncpkgaaPrf7
namespace Go.Proofs.Ytpndkmppncpkgaa.Img
open Go Go.Proofs.Ytpndkmppncpkgaa.AI Go.Proofs
noncomputable section
set_option maxRecDepth 100000
theorem anyP_hit {p : Nat → Bool} {n i : Nat} (hi : i < n) (h : p i = true) : anyP p (n - i) i = true := by
  obtain ⟨k, hk⟩ : ∃ k, n - i = k + 1 := ⟨n - i - 1, by omega⟩
  rw [hk, anyP, h, Bool.true_or]
theorem anyP_miss {p : Nat → Bool} {n i : Nat} (hi : i < n) (h : p i = false) : anyP p (n - i) i = anyP p (n - (i + 1)) (i + 1) := by
  obtain ⟨k, hk⟩ : ∃ k, n - i = k + 1 := ⟨n - i - 1, by omega⟩
  rw [hk, anyP, h, Bool.false_or, show n - (i + 1) = k by omega]
theorem anyP_congr {p q : Nat → Bool} : ∀ (n i : Nat), (∀ j, p j = q j) → anyP p n i = anyP q n i
  | 0, _, _ => rfl
  | n + 1, i, h => by rw [anyP, anyP, h, anyP_congr n (i + 1) h]
structure FOK (s n : Nat) (f : Nat → Nat → AV) (s' m : Nat) (g : Nat → Nat → AV) : Prop where
  f : IsI s n f
  g : IsI s' m g
  n : n ≤ 1000
  m : m ≤ 1000
def out16 (f : Nat → Int) (n : Nat) : Bool := anyP (fun i => bey 16777216 (f i)) n 0
def outM (a : Int) (g : Nat → Int) (m : Nat) : Bool := anyP (fun i => bey (16777216 * a) (g i)) m 0
def fchk (a b : Int) (n m : Nat) (f g : Nat → Int) : Int :=
  if bchk a b = 0 then (if (n : Int) = a ∧ (m : Int) = b then (if (out16 f n || outM a g m) = true then 3 else 0) else 11) else 3
theorem fchk_b {a b : Int} {n m : Nat} {f g : Nat → Int} (h : ¬ bchk a b = 0) : fchk a b n m f g = 3 := if_neg h
theorem fchk_l {a b : Int} {n m : Nat} {f g : Nat → Int} (h : bchk a b = 0) (h2 : ¬ ((n : Int) = a ∧ (m : Int) = b)) : fchk a b n m f g = 11 := by rw [fchk, if_pos h, if_neg h2]
theorem fchk_o {a b : Int} {n m : Nat} {f g : Nat → Int} (h : bchk a b = 0) (h2 : (n : Int) = a ∧ (m : Int) = b) (h3 : (out16 f n || outM a g m) = true) : fchk a b n m f g = 3 := by rw [fchk, if_pos h, if_pos h2, if_pos h3]
theorem fchk_0 {a b : Int} {n m : Nat} {f g : Nat → Int} (h : bchk a b = 0) (h2 : (n : Int) = a ∧ (m : Int) = b) (h3 : (out16 f n || outM a g m) = false) : fchk a b n m f g = 0 := by rw [fchk, if_pos h, if_pos h2, if_neg (by rw [h3]; decide)]
theorem fchk_zero {a b : Int} {n m : Nat} {f g : Nat → Int} (h : fchk a b n m f g = 0) : ((1 ≤ a ∧ a ≤ 256) ∧ (1 ≤ b ∧ b ≤ 256)) ∧ (n : Int) = a ∧ (m : Int) = b ∧ out16 f n = false ∧ outM a g m = false := by
  unfold fchk at h
  split at h
  · rename_i h1
    split at h
    · rename_i h2
      split at h
      · cases h
      · rename_i h3
        simp only [Bool.not_eq_true, Bool.or_eq_false_iff] at h3
        exact ⟨bchk0.1 h1, h2.1, h2.2, h3.1, h3.2⟩
    · cases h
  · cases h
def sFChk : Sp
  | [.agg [.int .i64 a, .int .i64 b, .sl s n f, .sl s' m g, .int .i64 _, .int .i64 _, .int .i64 _, .int .i64 _]] => .pre (FOK s n f s' m g) (.err (fchk a b n m (vI f) (vI g)))
  | _ => .no
theorem bchk3 {a b : Int} (h : ¬ bchk a b = 0) : bchk a b = 3 := by
  unfold bchk at h ⊢; split <;> simp_all
theorem ok45 : EntOK Try.prog TE 45 sFChk := by
  refine ⟨callable_of Try.func45 (by kernel_rfl), fun args => ?_⟩
  unfold sFChk
  split
  · rename_i a b s n f s' m g p q r t
    rintro ⟨hf, hg, hn, hm⟩
    refine FnOK.args (m := [.agg [.int .i64 a, .int .i64 b, .sl 1 n fun i _ => .int .i64 (vI f i), .sl 1 m fun i _ => .int .i64 (vI g i), .int .i64 p, .int .i64 q, .int .i64 r, .int .i64 t]]) ?_ ⟨.aggL ⟨.refl, .refl, hf.le1 rfl, hg.le1 rfl, .refl, .refl, .refl, .refl, trivial⟩, trivial⟩
    generalize vI f = x
    generalize vI g = y
    refine fn_ofF tabsOK (specOK_cons ok44 (specOK_cons ok52 (specOK_cons ok51 specOK_nil))) mixed Try.func45 (by kernel_rfl) ?_
    refine Brn.mk (fun h => ?_) (fun h => ?_)
    · have h : ¬ bchk a b = 0 := ndT h
      exact AVle.err (by rw [fchk_b h, bchk3 h])
    have h : bchk a b = 0 := ndF h
    have hb := bchk0.1 h
    have len : ¬ ((n : Int) = a ∧ (m : Int) = b) → AVle TE (.err 11) (.err (fchk a b n m x y)) := fun h2 => AVle.err (fchk_l h h2).symm
    refine Brn.mk (fun h1 => ?_) (fun h1 => ?_)
    · exact Chk.mk (by decide) (len fun q => ndT h1 q.1)
    refine Brn.mk (fun h2 => ?_) (fun h2 => ?_)
    · exact Chk.mk (by decide) (len fun q => ndT h2 q.2)
    have hl : (n : Int) = a ∧ (m : Int) = b := ⟨ndF h1, ndF h2⟩
    have e : wr (16777216 * a) = 16777216 * a := wr_id (by omega) (by omega)
    refine Chk.mk ⟨rfl, rfl, rfl, isI_mk, by omega⟩ ?_
    refine Brn.mk (fun h3 => ?_) (fun h3 => ?_)
    · have h3 : out16 x n = true := h3
      exact Chk.mk (by decide) (AVle.err (fchk_o h hl (by rw [h3, Bool.true_or])).symm)
    have h3 : out16 x n = false := h3
    refine Chk.mk ⟨rfl, rfl, rfl, isI_mk, by omega⟩ ?_
    have key : anyP (fun i => bey (wr (16777216 * a)) (y i)) m 0 = outM a y m := by rw [e]; rfl
    refine Brn.mk (fun h4 => ?_) (fun h4 => ?_)
    · have h4 : anyP (fun i => bey (wr (16777216 * a)) (y i)) m 0 = true := h4
      rw [key] at h4
      exact Chk.mk (by decide) (AVle.err (fchk_o h hl (by rw [h3, h4]; rfl)).symm)
    · have h4 : anyP (fun i => bey (wr (16777216 * a)) (y i)) m 0 = false := h4
      rw [key] at h4
      exact AVle.nilErr (fchk_0 h hl (by rw [h3, h4]; rfl))
  · trivial
def sumW (f : Nat → Int) : Nat → Int
  | 0 => 0
  | k + 1 => wr (sumW f k + f k)
def shf (f : Nat → Int) (n : Nat) (x : Int) (i : Nat) : Int := if i + 1 < n then f (i + 1) else x
def sMove : Sp
  | [.sl s n f, .int .i64 x] => .pre (IsI s n f ∧ 1 ≤ n ∧ n ≤ 1000) (.tup [.sl 1 n fun i _ => .int .i64 (shf (vI f) n x i), .int .i64 (sumW (shf (vI f) n x) n)])
  | _ => .no
theorem ok46 : EntOK Try.prog TE 46 sMove := by
  refine ⟨callable_of Try.func46 (by kernel_rfl), fun args => ?_⟩
  unfold sMove
  split
  · rename_i s n f x
    rintro ⟨hf, h1, h2⟩
    refine FnOK.args (m := [.sl 1 n fun i _ => .int .i64 (vI f i), .int .i64 x]) ?_ ⟨hf.le rfl, fun _ _ _ h => h, trivial⟩
    generalize vI f = y
    obtain ⟨k, rfl⟩ : ∃ k, n = k + 1 := ⟨n - 1, by omega⟩
    refine fn_ofF tabsOK (specOK_cons ok54 specOK_nil) mixed Try.func46 (by kernel_rfl) ?_
    refine Chk.mk ⟨by omega, by omega⟩ ?_
    refine Chk.mk ⟨⟨rfl, fun _ _ => rfl⟩, (show k * 8 ≤ 140737488355328 by omega)⟩ ?_
    refine Chk.mk ⟨(show (k + 1) * 8 ≤ 140737488355328 by omega), (show k + 1 ≤ 9223372036854775807 by omega)⟩ ?_
    refine LoopOK.mk ⟨{ i : Nat // i ≤ k + 1 }, fun i => mkSt [(6, .own 100 (k + 1)), (7, .int .i64 (sumW (shf y (k + 1) x) i.1)), (16, .own 100 (k + 1)), (17, .int .i64 (k + 1 : Nat)), (18, .int .i64 i.1)]
      [(100, ⟨3, 1, k + 1, fun i _ => .int .i64 (shf y (k + 1) x i), 1, false⟩)], fun i => k + 1 - i.1, ⟨⟨0, by omega⟩, ?_⟩, ?_⟩
    · refine wk_of [(100, some 15)] rfl ⟨rfl, ⟨rfl, rfl⟩, rfl, ⟨rfl, rfl⟩, ⟨rfl, rfl⟩, trivial⟩ ⟨RowLe.app (n := k) (fun i => .int .i64 (shf y (k + 1) x i)) rfl rfl rfl (fun i hi => ?_) ?_, trivial⟩
      · show AV.int .i64 (y (1 + i)) = _
        rw [shf, if_pos (by omega), Nat.add_comm]
      · show AV.int .i64 x = _
        rw [shf, if_neg (by omega)]
    rintro ⟨i, hi⟩
    have hi : i ≤ k + 1 := hi
    refine Brn.mk (fun h => ?_) (fun h => ?_)
    · have h : (i : Int) < (k + 1 : Nat) := of_decide_eq_true h
      refine Chk.mk ⟨Int.natCast_nonneg i, h⟩ ?_
      refine ⟨⟨i + 1, by omega⟩, by show k + 1 - (i + 1) < k + 1 - i; omega, ?_⟩
      refine wk_of [(100, some 100)] rfl ⟨rfl, ⟨rfl, rfl⟩, rfl, ⟨rfl, rfl⟩, ⟨wrS (i := i) (by omega), rfl⟩, trivial⟩ ⟨⟨rfl, rfl, rfl, rfl, rfl, fun _ _ _ _ => Or.inr rfl⟩, trivial⟩
    · have h : ¬ (i : Int) < (k + 1 : Nat) := of_decide_eq_false h
      have : i = k + 1 := by omega
      subst this
      exact AVle.tup2 (.slL rfl fun _ _ _ _ => .refl) (.int rfl)
  · trivial
def sSum : Sp
  | [.sl s n f] => .pre (IsI s n f ∧ n ≤ 1000) (.int .i64 (sumW (vI f) n))
  | _ => .no
theorem ok48 : EntOK Try.prog TE 48 sSum := by
  refine ⟨callable_of Try.func48 (by kernel_rfl), fun args => ?_⟩
  unfold sSum
  split
  · rename_i s n f
    rintro ⟨hf, h2⟩
    refine FnOK.args (m := [.sl 1 n fun i _ => .int .i64 (vI f i)]) ?_ ⟨hf.le rfl, trivial⟩
    generalize vI f = y
    refine fn_ofF tabsOK specOK_nil mixed Try.func48 (by kernel_rfl) ?_
    refine LoopOK.mk ⟨{ i : Nat // i ≤ n }, fun i => mkSt [(3, .int .i64 (sumW y i.1)), (6, .sl 1 n fun i _ => .int .i64 (y i)), (7, .int .i64 n), (8, .int .i64 i.1)]
      [], fun i => n - i.1, ⟨⟨0, by omega⟩, ?_⟩, ?_⟩
    · exact wk_of [] rfl ⟨⟨rfl, rfl⟩, ⟨rfl, rfl⟩, ⟨rfl, rfl⟩, ⟨rfl, rfl⟩, trivial⟩ trivial
    rintro ⟨i, hi⟩
    have hi : i ≤ n := hi
    refine Brn.mk (fun h => ?_) (fun h => ?_)
    · have h : (i : Int) < n := of_decide_eq_true h
      refine Chk.mk ⟨Int.natCast_nonneg i, h⟩ ?_
      refine ⟨⟨i + 1, by omega⟩, by show n - (i + 1) < n - i; omega, ?_⟩
      exact wk_of [] rfl ⟨⟨rfl, rfl⟩, ⟨rfl, rfl⟩, ⟨rfl, rfl⟩, ⟨wrS (i := i) (by omega), rfl⟩, trivial⟩ trivial
    · have h : ¬ (i : Int) < n := of_decide_eq_false h
      have : i = n := by omega
      subst this
      exact AVle.int rfl
  · trivial
def allP (p : Nat → Bool) (n : Nat) : Bool := !anyP (fun i => !p i) n 0
def sInts : Sp
  | [.sl s n f, .sl s' m g] => .pre (FOK s n f s' m g) (.bit (decide (n = m) && allP (fun i => decide (vI f i = vI g i)) n))
  | _ => .no
theorem ok49 : EntOK Try.prog TE 49 sInts := by
  refine ⟨callable_of Try.func49 (by kernel_rfl), fun args => ?_⟩
  unfold sInts
  split
  · rename_i s n f s' m g
    rintro ⟨hf, hg, hn, hm⟩
    refine FnOK.args (m := [.sl 1 n fun i _ => .int .i64 (vI f i), .sl 1 m fun i _ => .int .i64 (vI g i)]) ?_ ⟨hf.le rfl, hg.le rfl, trivial⟩
    generalize vI f = x
    generalize vI g = y
    refine fn_ofF tabsOK specOK_nil mixed Try.func49 (by kernel_rfl) ?_
    refine Brn.mk (fun h => ?_) (fun h => ?_)
    · have h : ¬ (n : Int) = m := ndT h
      refine AVle.bit ?_
      rw [decide_eq_false (show ¬ n = m by omega), Bool.false_and]
    have h : (n : Int) = m := ndF h
    have h : n = m := by omega
    subst h
    refine LoopOK.mk ⟨{ i : Nat // i ≤ n ∧ anyP (fun i => !decide (x i = y i)) (n - i) i = anyP (fun i => !decide (x i = y i)) n 0 }, fun i => mkSt [(0, .sl 1 n fun i _ => .int .i64 (x i)), (1, .sl 1 n fun i _ => .int .i64 (y i)), (12, .int .i64 n), (13, .int .i64 i.1)]
      [], fun i => n - i.1, ⟨⟨0, by omega, rfl⟩, ?_⟩, ?_⟩
    · exact wk_of [] rfl ⟨⟨rfl, rfl⟩, ⟨rfl, rfl⟩, ⟨rfl, rfl⟩, ⟨rfl, rfl⟩, trivial⟩ trivial
    rintro ⟨i, hi, he⟩
    refine Brn.mk (fun h => ?_) (fun h => ?_)
    · have h : (i : Int) < n := of_decide_eq_true h
      refine Chk.mk ⟨Int.natCast_nonneg i, h⟩ (Chk.mk ⟨Int.natCast_nonneg i, h⟩ ?_)
      refine Brn.mk (fun h2 => AVle.bit ?_) (fun h2 => ?_)
      · rw [decide_eq_true rfl, Bool.true_and, allP]
        have := (anyP_hit (p := fun i => !decide (x i = y i)) (i := i) (n := n) (by omega) h2).symm.trans he
        show false = !anyP (fun i => !decide (x i = y i)) n 0
        rw [← this]; rfl
      · refine ⟨⟨i + 1, by omega, (anyP_miss (p := fun i => !decide (x i = y i)) (i := i) (by omega) h2).symm.trans he⟩, by show n - (i + 1) < n - i; omega, ?_⟩
        exact wk_of [] rfl ⟨⟨rfl, rfl⟩, ⟨rfl, rfl⟩, ⟨rfl, rfl⟩, ⟨wrS (i := i) (by omega), rfl⟩, trivial⟩ trivial
    · have h : ¬ (i : Int) < n := of_decide_eq_false h
      have : i = n := by omega
      subst this
      rw [Nat.sub_self] at he
      refine AVle.bit ?_
      rw [decide_eq_true rfl, Bool.true_and, allP]
      show true = !anyP (fun i => !decide (x i = y i)) i 0
      rw [← he]; rfl
  · trivial
end
end Go.Proofs.Ytpndkmppncpkgaa.Img
