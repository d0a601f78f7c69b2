/- Chapter 37: the specification's filter. Conditions: none. -/
import Derived.Test.YtpndkmppncpkgaaPrf9
namespace Go.Proofs.Ytpndkmppncpkgaa.Img
open Go Go.Proofs.Ytpndkmppncpkgaa.AI Go.Proofs
noncomputable section
set_option maxRecDepth 100000
def sFits : Sp
  | [.agg [.int .i64 a, .int .i64 b, .sl s n f, .sl s' m g, .int .i64 _, .int .i64 _, .int .i64 _, .int .i64 _]] => .pre (FOK s n f s' m g) (.int .i64 (fchk a b n m (vI f) (vI g)))
  | _ => .no
theorem bey_def {m x : Int} (hm : 0 ≤ m ∧ m ≤ 4611686018427387904) : bey m x = (decide (x < -m) || decide (m < x)) := by
  unfold bey; rw [wr_id (by omega) (by omega), show (0 : Int) - m = -m by omega]
theorem ok47 : EntOK Try.prog TE 47 sFits := by
  refine ⟨callable_of Try.func47 (by kernel_rfl), fun args => ?_⟩
  unfold sFits
  split
  · rename_i a b s n f s' m g p q r t
    rintro ⟨hf, hg, hn, hm⟩
    refine FnOK.args (m := [.agg [.int .i64 a, .int .i64 b, .sl 1 n fun i _ => .int .i64 (vI f i), .sl 1 m fun i _ => .int .i64 (vI g i), .int .i64 p, .int .i64 q, .int .i64 r, .int .i64 t]]) ?_ ⟨.aggL ⟨.refl, .refl, hf.le1 rfl, hg.le1 rfl, .refl, .refl, .refl, .refl, trivial⟩, trivial⟩
    generalize vI f = x
    generalize vI g = y
    refine fn_ofF tabsOK specOK_nil mixed Try.func47 (by kernel_rfl) ?_
    have no : ¬ ((1 ≤ a ∧ a ≤ 256) ∧ (1 ≤ b ∧ b ≤ 256)) → AVle TE (.int .i64 3) (.int .i64 (fchk a b n m x y)) := fun h => AVle.int (fchk_b (fun q => h (bchk0.1 q))).symm
    refine Brn.mk (fun h => no (fun q => by have h := of_decide_eq_true h; omega)) (fun h1 => ?_)
    refine Brn.mk (fun h => no (fun q => by have h := of_decide_eq_true h; omega)) (fun h2 => ?_)
    refine Brn.mk (fun h => no (fun q => by have h := of_decide_eq_true h; omega)) (fun h3 => ?_)
    refine Brn.mk (fun h => no (fun q => by have h := of_decide_eq_true h; omega)) (fun h4 => ?_)
    have h1 := of_decide_eq_false h1
    have h2 := of_decide_eq_false h2
    have h3 := of_decide_eq_false h3
    have h4 := of_decide_eq_false h4
    have hb : bchk a b = 0 := bchk0.2 ⟨⟨by omega, by omega⟩, by omega, by omega⟩
    refine Brn.mk (fun h => AVle.int (fchk_l hb (fun q => ndT h q.1)).symm) (fun h5 => ?_)
    refine Brn.mk (fun h => AVle.int (fchk_l hb (fun q => ndT h q.2)).symm) (fun h6 => ?_)
    have hl : (n : Int) = a ∧ (m : Int) = b := ⟨ndF h5, ndF h6⟩
    have c1 : wr (0 - 16777216) = -16777216 := by rw [wr_id (by decide) (by decide)]; rfl
    refine LoopOK.mk ⟨{ i : Nat // i ≤ n ∧ anyP (fun i => bey 16777216 (x i)) (n - i) i = out16 x n }, fun i => mkSt [(1, .loc 1 0), (40, .sl 1 n fun i _ => .int .i64 (x i)), (41, .int .i64 n), (42, .int .i64 i.1)]
      [(1, ⟨50, 8, 1, fun _ j => nth [.int .i64 a, .int .i64 b, .sl 1 n fun i _ => .int .i64 (x i), .sl 1 m fun i _ => .int .i64 (y i), .int .i64 p, .int .i64 q, .int .i64 r, .int .i64 t] j, 0, true⟩)], fun i => n - i.1, ⟨⟨0, by omega, rfl⟩, ?_⟩, ?_⟩
    · refine wk_of [(1, some 1)] rfl ⟨rfl, ⟨rfl, rfl⟩, ⟨rfl, rfl⟩, ⟨rfl, rfl⟩, trivial⟩ ⟨RowLe.fin rfl rfl rfl rfl rfl ?_, trivial⟩
      (repeat' first | exact trivial | exact ⟨by kernel_rfl, by kernel_rfl⟩ | exact Or.inr (by kernel_rfl) | (show _ = _; kernel_rfl) | refine ⟨?_, ?_⟩)
    rintro ⟨i, hi, he⟩
    refine Brn.mk (fun h => ?_) (fun h => ?_)
    · have h : (i : Int) < n := of_decide_eq_true h
      have hit : bey 16777216 (x i) = true → fchk a b n m x y = 3 := fun hb' => by
        have := (anyP_hit (p := fun i => bey 16777216 (x i)) (i := i) (n := n) (by omega) hb').symm.trans he
        exact fchk_o hb hl (by rw [← this, Bool.true_or])
      refine Chk.mk ⟨Int.natCast_nonneg i, h⟩ ?_
      refine Brn.mk (fun h2 => AVle.int (hit ?_).symm) (fun h2 => ?_)
      · rw [bey_def (by decide), show decide (x i < -16777216) = true from h2, Bool.true_or]
      refine Brn.mk (fun h3 => AVle.int (hit ?_).symm) (fun h3 => ?_)
      · rw [bey_def (by decide), show decide (16777216 < x i) = true from h3, Bool.or_true]
      have hno : bey 16777216 (x i) = false := by
        rw [bey_def (by decide), show decide (x i < -16777216) = false from h2, show decide (16777216 < x i) = false from h3]; rfl
      refine ⟨⟨i + 1, by omega, (anyP_miss (p := fun i => bey 16777216 (x i)) (i := i) (by omega) hno).symm.trans he⟩, by show n - (i + 1) < n - i; omega, ?_⟩
      refine wk_of [(1, some 1)] rfl ⟨rfl, ⟨rfl, rfl⟩, ⟨rfl, rfl⟩, ⟨wrS (i := i) (by omega), rfl⟩, trivial⟩ ⟨RowLe.fin rfl rfl rfl rfl rfl ?_, trivial⟩
      (repeat' first | exact trivial | exact ⟨by kernel_rfl, by kernel_rfl⟩ | exact Or.inr (by kernel_rfl) | (show _ = _; kernel_rfl) | refine ⟨?_, ?_⟩)
    have h : ¬ (i : Int) < n := of_decide_eq_false h
    have hin : i = n := by omega
    have o1 : out16 x n = false := by rw [← he, hin, Nat.sub_self]; rfl
    have e1 : wr (wr (0 - a) * 2 ^ 24) = -(16777216 * a) := by
      rw [wr_id (n := 0 - a) (by omega) (by omega), show (2 : Int) ^ 24 = 16777216 from rfl, wr_id (by omega) (by omega)]; omega
    have e2 : wr (a * 2 ^ 24) = 16777216 * a := by
      rw [show (2 : Int) ^ 24 = 16777216 from rfl, wr_id (by omega) (by omega)]; omega
    refine LoopOK.mk ⟨{ i : Nat // i ≤ m ∧ anyP (fun i => bey (16777216 * a) (y i)) (m - i) i = outM a y m }, fun i => mkSt [(1, .loc 1 0), (54, .sl 1 m fun i _ => .int .i64 (y i)), (55, .int .i64 m), (56, .int .i64 i.1)]
      [(1, ⟨50, 8, 1, fun _ j => nth [.int .i64 a, .int .i64 b, .sl 1 n fun i _ => .int .i64 (x i), .sl 1 m fun i _ => .int .i64 (y i), .int .i64 p, .int .i64 q, .int .i64 r, .int .i64 t] j, 0, true⟩)], fun i => m - i.1, ⟨⟨0, by omega, rfl⟩, ?_⟩, ?_⟩
    · refine wk_of [(1, some 1)] rfl ⟨rfl, ⟨rfl, rfl⟩, ⟨rfl, rfl⟩, ⟨rfl, rfl⟩, trivial⟩ ⟨RowLe.fin rfl rfl rfl rfl rfl ?_, trivial⟩
      (repeat' first | exact trivial | exact ⟨by kernel_rfl, by kernel_rfl⟩ | exact Or.inr (by kernel_rfl) | (show _ = _; kernel_rfl) | refine ⟨?_, ?_⟩)
    rintro ⟨k, hk, hke⟩
    refine Brn.mk (fun h => ?_) (fun h => ?_)
    · have h : (k : Int) < m := of_decide_eq_true h
      have hit : bey (16777216 * a) (y k) = true → fchk a b n m x y = 3 := fun hb' => by
        have := (anyP_hit (p := fun i => bey (16777216 * a) (y i)) (i := k) (n := m) (by omega) hb').symm.trans hke
        exact fchk_o hb hl (by rw [← this, Bool.or_true])
      refine Chk.mk ⟨Int.natCast_nonneg k, h⟩ (Chk.mk (by decide) ?_)
      refine Brn.mk (fun h2 => AVle.int (hit ?_).symm) (fun h2 => ?_)
      · have h2 : decide (y k < wr (wr (0 - a) * 2 ^ 24)) = true := h2
        rw [e1] at h2
        rw [bey_def (by omega), h2, Bool.true_or]
      have h2 : decide (y k < wr (wr (0 - a) * 2 ^ 24)) = false := h2
      rw [e1] at h2
      refine Chk.mk (by decide) ?_
      refine Brn.mk (fun h3 => AVle.int (hit ?_).symm) (fun h3 => ?_)
      · have h3 : decide (wr (a * 2 ^ 24) < y k) = true := h3
        rw [e2] at h3
        rw [bey_def (by omega), h3, Bool.or_true]
      have h3 : decide (wr (a * 2 ^ 24) < y k) = false := h3
      rw [e2] at h3
      have hno : bey (16777216 * a) (y k) = false := by rw [bey_def (by omega), h2, h3]; rfl
      refine ⟨⟨k + 1, by omega, (anyP_miss (p := fun i => bey (16777216 * a) (y i)) (i := k) (by omega) hno).symm.trans hke⟩, by show m - (k + 1) < m - k; omega, ?_⟩
      refine wk_of [(1, some 1)] rfl ⟨rfl, ⟨rfl, rfl⟩, ⟨rfl, rfl⟩, ⟨wrS (i := k) (by omega), rfl⟩, trivial⟩ ⟨RowLe.fin rfl rfl rfl rfl rfl ?_, trivial⟩
      (repeat' first | exact trivial | exact ⟨by kernel_rfl, by kernel_rfl⟩ | exact Or.inr (by kernel_rfl) | (show _ = _; kernel_rfl) | refine ⟨?_, ?_⟩)
    · have h : ¬ (k : Int) < m := of_decide_eq_false h
      have hkm : k = m := by omega
      have o2 : outM a y m = false := by rw [← hke, hkm, Nat.sub_self]; rfl
      exact AVle.int (fchk_0 hb hl (by rw [o1, o2]; rfl)).symm
  · trivial
structure SameOK (a a' b b' : Int) (n n' m m' : Nat) (f f' g g' : Nat → Int) (p p' q q' r r' t t' : Int) : Prop where
  a : a = a'
  b : b = b'
  n : n = n'
  m : m = m'
  f : ∀ i, f i = f' i
  g : ∀ i, g i = g' i
  p : p = p'
  q : q = q'
  r : r = r'
  t : t = t'
def sSame : Sp
  | [.agg [.int .i64 a, .int .i64 b, .sl s n f, .sl s' m g, .int .i64 p, .int .i64 q, .int .i64 r, .int .i64 t], .agg [.int .i64 a', .int .i64 b', .sl u n' f', .sl u' m' g', .int .i64 p', .int .i64 q', .int .i64 r', .int .i64 t']] =>
    .pre (FOK s n f s' m g ∧ FOK u n' f' u' m' g' ∧ SameOK a a' b b' n n' m m' (vI f) (vI f') (vI g) (vI g') p p' q q' r r' t t') (.bit true)
  | _ => .no
theorem allP_self {p : Nat → Bool} {n : Nat} (h : ∀ i, p i = true) : allP p n = true := by
  unfold allP
  have : ∀ k i, anyP (fun i => !p i) k i = false := fun k => by
    induction k with
    | zero => exact fun _ => rfl
    | succ k ih => intro i; rw [anyP, ih, h]; rfl
  rw [this]; rfl
theorem ok30 : EntOK Try.prog TE 30 sSame := by
  refine ⟨callable_of Try.func30 (by kernel_rfl), fun args => ?_⟩
  unfold sSame
  split
  · rename_i a b s n f s' m g p q r t a' b' u n' f' u' m' g' p' q' r' t'
    rintro ⟨⟨hf, hg, hn, hm⟩, ⟨hf', hg', _, _⟩, rfl, rfl, rfl, rfl, ef, eg, rfl, rfl, rfl, rfl⟩
    refine FnOK.args (m := [.agg [.int .i64 a, .int .i64 b, .sl 1 n fun i _ => .int .i64 (vI f i), .sl 1 m fun i _ => .int .i64 (vI g i), .int .i64 p, .int .i64 q, .int .i64 r, .int .i64 t], .agg [.int .i64 a, .int .i64 b, .sl 1 n fun i _ => .int .i64 (vI f' i), .sl 1 m fun i _ => .int .i64 (vI g' i), .int .i64 p, .int .i64 q, .int .i64 r, .int .i64 t]]) ?_
      ⟨.aggL ⟨.refl, .refl, hf.le1 rfl, hg.le1 rfl, .refl, .refl, .refl, .refl, trivial⟩, .aggL ⟨.refl, .refl, hf'.le1 rfl, hg'.le1 rfl, .refl, .refl, .refl, .refl, trivial⟩, trivial⟩
    generalize vI f = x at *
    generalize vI g = y at *
    generalize vI f' = x' at *
    generalize vI g' = y' at *
    refine fn_ofF tabsOK (specOK_cons ok49 specOK_nil) mixed Try.func30 (by kernel_rfl) ?_
    refine Brn.mk (fun _ => ?_) (fun q => absurd rfl (of_decide_eq_false q))
    refine Brn.mk (fun _ => ?_) (fun q => absurd rfl (of_decide_eq_false q))
    refine Brn.mk (fun _ => ?_) (fun q => (eq4_no rfl rfl rfl rfl q).elim)
    refine Chk.mk ⟨isI_mk, isI_mk, hn, hn⟩ ?_
    have k1 : (decide (n = n) && allP (fun i => decide (x i = x' i)) n) = true := by rw [decide_eq_true rfl, allP_self (fun i => decide_eq_true (ef i))]; rfl
    have k2 : (decide (m = m) && allP (fun i => decide (y i = y' i)) m) = true := by rw [decide_eq_true rfl, allP_self (fun i => decide_eq_true (eg i))]; rfl
    refine Brn.mk (fun _ => ?_) (fun q => absurd k1 (by rw [show (decide (n = n) && allP (fun i => decide (x i = x' i)) n) = false from q]; decide))
    refine Chk.mk ⟨isI_mk, isI_mk, hm, hm⟩ ?_
    exact AVle.bit k2
  · trivial
def restV (a b : Int) (n m : Nat) (f g : Nat → Int) (q : Int) : Bool := decide (fchk a b n m f g = 0) && (!anyP (fun i => !decide (f i = 0)) n 0 && (!anyP (fun i => !decide (g i = 0)) m 0 && decide (q = 0)))
def sRest : Sp
  | [.agg [.int .i64 a, .int .i64 b, .sl s n f, .sl s' m g, .int .i64 _, .int .i64 q, .int .i64 _, .int .i64 _]] => .pre (FOK s n f s' m g) (.bit (restV a b n m (vI f) (vI g) q))
  | _ => .no
theorem ok31 : EntOK Try.prog TE 31 sRest := by
  refine ⟨callable_of Try.func31 (by kernel_rfl), fun args => ?_⟩
  unfold sRest
  split
  · rename_i a b s n f s' m g p q r t
    rintro ⟨hf, hg, hn, hm⟩
    refine FnOK.args (m := [.agg [.int .i64 a, .int .i64 b, .sl 1 n fun i _ => .int .i64 (vI f i), .sl 1 m fun i _ => .int .i64 (vI g i), .int .i64 p, .int .i64 q, .int .i64 r, .int .i64 t]]) ?_ ⟨.aggL ⟨.refl, .refl, hf.le1 rfl, hg.le1 rfl, .refl, .refl, .refl, .refl, trivial⟩, trivial⟩
    generalize vI f = x
    generalize vI g = y
    refine fn_ofF tabsOK (specOK_cons ok45 (specOK_cons ok51 specOK_nil)) mixed Try.func31 (by kernel_rfl) ?_
    refine Chk.mk ⟨isI_mk, isI_mk, hn, hm⟩ ?_
    refine Brn.mk (fun h1 => ?_) (fun h1 => AVle.bit ?_)
    · refine Chk.mk ⟨rfl, isI_mk, by omega⟩ ?_
      refine Brn.mk (fun h2 => ?_) (fun h2 => AVle.bit ?_)
      · refine Chk.mk ⟨rfl, isI_mk, by omega⟩ ?_
        refine Brn.mk (fun h3 => AVle.bit ?_) (fun h3 => AVle.bit ?_)
        · rw [restV, show decide (fchk a b n m x y = 0) = true from h1, show (!anyP (fun i => !decide (x i = 0)) n 0) = true from h2, show (!anyP (fun i => !decide (y i = 0)) m 0) = true from h3]; rfl
        · rw [restV, show decide (fchk a b n m x y = 0) = true from h1, show (!anyP (fun i => !decide (x i = 0)) n 0) = true from h2, show (!anyP (fun i => !decide (y i = 0)) m 0) = false from h3]; rfl
      · rw [restV, show decide (fchk a b n m x y = 0) = true from h1, show (!anyP (fun i => !decide (x i = 0)) n 0) = false from h2]; rfl
    · rw [restV, show decide (fchk a b n m x y = 0) = false from h1]; rfl
  · trivial
end
end Go.Proofs.Ytpndkmppncpkgaa.Img
