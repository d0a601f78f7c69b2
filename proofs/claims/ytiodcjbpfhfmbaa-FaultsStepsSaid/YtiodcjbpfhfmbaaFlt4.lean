/- Chapter 48: the cause, equality of states, small functions. Conditions: none. -/
import Derived.Test.YtiodcjbpfhfmbaaFlt3
namespace Go.Proofs.Ytiodcjbpfhfmbaa.Img
open Go Go.Proofs.Ytiodcjbpfhfmbaa.AI Go.Proofs
noncomputable section
set_option maxRecDepth 100000
def cau (n : Nat) (r : Nat → Int) (c : Nat → Bool) : Int := if wst r c n = 0 then -1 else idxF (fun i => decide (r i = wst r c n) && c i) n 0
theorem tchk_ok {n : Nat} {r : Nat → Int} {na nh : Nat} {re tk : Int} {k : Nat} (h : tchk n r na nh re tk k = 0) : rchk n r = 0 ∧ schk n na nh re tk k = 0 := by
  unfold tchk at h
  split at h
  · rename_i h1; exact ⟨h1, h⟩
  · rename_i h1; exact absurd h h1
def sCau : Sp
  | [.sl s n f, .agg [a, h, .int .i64 re, .int .i64 tk, lg]] => .pre (RulOK s n f ∧ StOK a h lg) (.tup [.int .i64 (zI (tchk n (vI f) (slN a) (slN h) re tk (slN lg)) (cau n (vI f) (cnts a h))), .err (tchk n (vI f) (slN a) (slN h) re tk (slN lg))])
  | _ => .no
theorem ok25 : EntOK Try.prog TE 25 sCau := by
  refine ⟨callable_of Try.func25 (by kernel_rfl), fun args => ?_⟩
  unfold sCau
  split
  · rename_i s n f a h re tk lg
    rintro ⟨⟨hf, hn⟩, H⟩
    refine FnOK.args (m := [.sl 2 n (rulF (vI f) (vL f)), .agg (stL (slN a) (slN h) (vB (slF a)) (vB (slF h)) re tk (slN lg) (vI (slF lg)) (vJ (slF lg)))]) ?_ ⟨le2_sl hf.le1, H.le, trivial⟩
    have ec : cnts a h = fun i => vB (slF a) i || vB (slF h) i := rfl
    obtain ⟨_, _, _, an, hn', ln⟩ := H
    rw [ec]
    generalize vI f = r
    generalize vL f = l
    generalize slN a = na at *
    generalize slN h = nh at *
    generalize slN lg = k at *
    generalize vB (slF a) = x
    generalize vB (slF h) = y
    generalize vI (slF lg) = ea
    generalize vJ (slF lg) = eb
    refine fn_ofF tabsOK (specOK_cons ok30 (specOK_cons ok33 specOK_nil)) mixed Try.func25 (by kernel_rfl) ?_
    refine Chk.mk ⟨⟨isR_mk, hn⟩, stOK_mk an hn' ln⟩ ?_
    refine Brn.mk (fun h1 => ?_) (fun h1 => ?_)
    · have h1 : ¬ tchk n r na nh re tk k = 0 := ndT h1
      exact AVle.tup2 (.int (zI1 h1).symm) (.err rfl)
    have h1 : tchk n r na nh re tk k = 0 := ndF h1
    obtain ⟨ha, hh, _⟩ := schk_zero (tchk_ok h1).2
    refine Chk.mk ⟨⟨isR_mk, hn⟩, stOK_mk an hn' ln, (show n ≤ na by omega), (show n ≤ nh by omega)⟩ ?_
    have res : ∀ v, v = cau n r (fun i => x i || y i) → AVle TE (.tup [.int .i64 v, .nilI]) (.tup [.int .i64 (zI (tchk n r na nh re tk k) (cau n r (fun i => x i || y i))), .err (tchk n r na nh re tk k)]) := fun v hv => by
      subst hv; exact AVle.tup2 (.int (zI0 h1).symm) (.nilErr h1)
    refine Brn.mk (fun h2 => res _ (if_pos (show wst r (fun i => x i || y i) n = 0 from of_decide_eq_true h2)).symm) (fun h2 => ?_)
    have h2 : ¬ wst r (fun i => x i || y i) n = 0 := of_decide_eq_false h2
    have ecau : cau n r (fun i => x i || y i) = idxF (fun i => decide (r i = wst r (fun i => x i || y i) n) && (x i || y i)) n 0 := if_neg h2
    obtain ⟨w, hw⟩ : ∃ w, wst r (fun i => x i || y i) n = w := ⟨_, rfl⟩
    rw [hw] at ecau
    refine LoopOK.mk ⟨{ i : Nat // i ≤ n ∧ idxF (fun i => decide (r i = w) && (x i || y i)) (n - i) i = idxF (fun i => decide (r i = w) && (x i || y i)) n 0 }, fun i => mkSt [(3, .loc 3 0), (7, .int .i64 w), (21, .sl 2 n (rulF r l)), (22, .int .i64 n), (23, .int .i64 i.1)]
      [(3, ⟨28, 5, 1, fun _ j => nth (stL na nh x y re tk k ea eb) j, 0, true⟩)], fun i => n - i.1, ⟨⟨0, by omega, rfl⟩, ?_⟩, ?_⟩
    · refine wk_of [(3, some 3)] rfl ⟨rfl, ⟨congrArg (AV.int .i64) hw, rfl⟩, ⟨rfl, rfl⟩, ⟨rfl, rfl⟩, ⟨rfl, rfl⟩, trivial⟩ ⟨RowLe.fin rfl rfl rfl rfl rfl ?_, trivial⟩
      (repeat' first | exact trivial | exact ⟨by kernel_rfl, by kernel_rfl⟩ | exact Or.inr (by kernel_rfl) | (show _ = _; kernel_rfl) | refine ⟨?_, ?_⟩)
    rintro ⟨i, hi, he⟩
    refine Brn.mk (fun h3 => ?_) (fun h3 => ?_)
    · have h3 : (i : Int) < n := of_decide_eq_true h3
      have hit : (decide (r i = w) && (x i || y i)) = true → AVle TE (.tup [.int .i64 (i : Int), .nilI]) (.tup [.int .i64 (zI (tchk n r na nh re tk k) (cau n r (fun i => x i || y i))), .err (tchk n r na nh re tk k)]) := fun q =>
        res _ (((idxF_hit (p := fun i => decide (r i = w) && (x i || y i)) (i := i) (by omega) q).symm.trans he).trans ecau.symm)
      have next : (decide (r i = w) && (x i || y i)) = false → idxF (fun i => decide (r i = w) && (x i || y i)) (n - (i + 1)) (i + 1) = idxF (fun i => decide (r i = w) && (x i || y i)) n 0 := fun q =>
        (idxF_miss (p := fun i => decide (r i = w) && (x i || y i)) (i := i) (by omega) q).symm.trans he
      refine Chk.mk ⟨Int.natCast_nonneg i, h3⟩ ?_
      refine Brn.mk (fun h4 => ?_) (fun h4 => ?_)
      · have h4 : decide (r i = w) = true := h4
        refine Chk.mk ⟨Int.natCast_nonneg i, (show (i : Int) < na by omega)⟩ ?_
        refine Brn.mk (fun h5 => ?_) (fun h5 => ?_)
        · have h5 : x i = true := h5
          exact hit (by rw [h4, h5]; rfl)
        · have h5 : x i = false := h5
          refine Chk.mk ⟨Int.natCast_nonneg i, (show (i : Int) < nh by omega)⟩ ?_
          refine Brn.mk (fun h6 => ?_) (fun h6 => ?_)
          · have h6 : y i = true := h6
            exact hit (by rw [h4, h5, h6]; rfl)
          · have h6 : y i = false := h6
            refine ⟨⟨i + 1, by omega, next (by rw [h4, h5, h6]; rfl)⟩, by show n - (i + 1) < n - i; omega, ?_⟩
            refine wk_of [(3, some 3)] rfl ⟨rfl, ⟨rfl, rfl⟩, ⟨rfl, rfl⟩, ⟨rfl, rfl⟩, ⟨wrS (i := i) (by omega), rfl⟩, trivial⟩ ⟨RowLe.fin rfl rfl rfl rfl rfl ?_, trivial⟩
            (repeat' first | exact trivial | exact ⟨by kernel_rfl, by kernel_rfl⟩ | exact Or.inr (by kernel_rfl) | (show _ = _; kernel_rfl) | refine ⟨?_, ?_⟩)
      · have h4 : decide (r i = w) = false := h4
        refine ⟨⟨i + 1, by omega, next (by rw [h4]; rfl)⟩, by show n - (i + 1) < n - i; omega, ?_⟩
        refine wk_of [(3, some 3)] rfl ⟨rfl, ⟨rfl, rfl⟩, ⟨rfl, rfl⟩, ⟨rfl, rfl⟩, ⟨wrS (i := i) (by omega), rfl⟩, trivial⟩ ⟨RowLe.fin rfl rfl rfl rfl rfl ?_, trivial⟩
        (repeat' first | exact trivial | exact ⟨by kernel_rfl, by kernel_rfl⟩ | exact Or.inr (by kernel_rfl) | (show _ = _; kernel_rfl) | refine ⟨?_, ?_⟩)
    · have h3 : ¬ (i : Int) < n := of_decide_eq_false h3
      have hin : i = n := by omega
      rw [hin, Nat.sub_self] at he
      exact res _ (he.trans ecau.symm)
  · trivial
def sRCau : Sp
  | [.sl s n f, .agg [a, h, .int .i64 _, .int .i64 _, lg]] => .pre (WOK s n f a h lg) (.int .i64 (cau n (vI f) (cnts a h)))
  | _ => .no
theorem ok26 : EntOK Try.prog TE 26 sRCau := by
  refine ⟨callable_of Try.func26 (by kernel_rfl), fun args => ?_⟩
  unfold sRCau
  split
  · rename_i s n f a h re tk lg
    rintro ⟨⟨hf, hn⟩, H, hpa, hph⟩
    refine FnOK.args (m := [.sl 2 n (rulF (vI f) (vL f)), .agg (stL (slN a) (slN h) (vB (slF a)) (vB (slF h)) re tk (slN lg) (vI (slF lg)) (vJ (slF lg)))]) ?_ ⟨le2_sl hf.le1, H.le, trivial⟩
    have ec : cnts a h = fun i => vB (slF a) i || vB (slF h) i := rfl
    obtain ⟨_, _, _, an, hn', ln⟩ := H
    rw [ec]
    generalize vI f = r
    generalize vL f = l
    generalize slN a = na at *
    generalize slN h = nh at *
    generalize slN lg = k at *
    generalize vB (slF a) = x
    generalize vB (slF h) = y
    generalize vI (slF lg) = ea
    generalize vJ (slF lg) = eb
    refine fn_ofF tabsOK (specOK_cons ok34 specOK_nil) mixed Try.func26 (by kernel_rfl) ?_
    refine Chk.mk ⟨⟨isR_mk, hn⟩, stOK_mk an hn' ln, (show n ≤ na by omega), (show n ≤ nh by omega)⟩ ?_
    obtain ⟨w, hw⟩ : ∃ w, wst r (fun i => x i || y i) n = w := ⟨_, rfl⟩
    have w0 : 0 ≤ w := by rw [← hw]; exact wst_nonneg _ _ _
    have ecau : idxF (fun i => decide (0 < w) && ((x i || y i) && decide (r i = w))) n 0 = cau n r (fun i => x i || y i) := by
      unfold cau
      rw [hw]
      by_cases h0 : w = 0
      · rw [if_pos h0]
        have : (fun i => decide (0 < w) && ((x i || y i) && decide (r i = w))) = fun _ => false := funext fun i => by rw [decide_eq_false (by omega)]; rfl
        rw [this]
        have : ∀ k i, idxF (fun _ => false) k i = -1 := fun k => by
          induction k with
          | zero => exact fun _ => rfl
          | succ k ih => intro i; rw [idxF, if_neg (by decide), ih]
        exact this n 0
      · rw [if_neg h0]
        have : (fun i => decide (0 < w) && ((x i || y i) && decide (r i = w))) = fun i => decide (r i = w) && (x i || y i) := funext fun i => by rw [decide_eq_true (by omega), Bool.true_and, Bool.and_comm]
        rw [this]
    refine LoopOK.mk ⟨{ i : Nat // i ≤ n ∧ idxF (fun i => decide (0 < w) && ((x i || y i) && decide (r i = w))) (n - i) i = cau n r (fun i => x i || y i) }, fun i => mkSt [(0, .sl 2 n (rulF r l)), (3, .loc 3 0), (5, .int .i64 w), (6, .int .i64 i.1)]
      [(3, ⟨28, 5, 1, fun _ j => nth (stL na nh x y re tk k ea eb) j, 0, true⟩)], fun i => n - i.1, ⟨⟨0, by omega, ecau⟩, ?_⟩, ?_⟩
    · refine wk_of [(3, some 3)] rfl ⟨⟨rfl, rfl⟩, rfl, ⟨congrArg (AV.int .i64) hw, rfl⟩, ⟨rfl, rfl⟩, trivial⟩ ⟨RowLe.fin rfl rfl rfl rfl rfl ?_, trivial⟩
      (repeat' first | exact trivial | exact ⟨by kernel_rfl, by kernel_rfl⟩ | exact Or.inr (by kernel_rfl) | (show _ = _; kernel_rfl) | refine ⟨?_, ?_⟩)
    rintro ⟨i, hi, he⟩
    refine Brn.mk (fun h3 => ?_) (fun h3 => ?_)
    · have h3 : (i : Int) < n := of_decide_eq_true h3
      have hit : (decide (0 < w) && ((x i || y i) && decide (r i = w))) = true → AVle TE (.int .i64 (i : Int)) (.int .i64 (cau n r (fun i => x i || y i))) := fun q =>
        AVle.int ((idxF_hit (p := fun i => decide (0 < w) && ((x i || y i) && decide (r i = w))) (i := i) (by omega) q).symm.trans he)
      have next : (decide (0 < w) && ((x i || y i) && decide (r i = w))) = false → idxF (fun i => decide (0 < w) && ((x i || y i) && decide (r i = w))) (n - (i + 1)) (i + 1) = cau n r (fun i => x i || y i) := fun q =>
        (idxF_miss (p := fun i => decide (0 < w) && ((x i || y i) && decide (r i = w))) (i := i) (by omega) q).symm.trans he
      refine Brn.mk (fun h4 => ?_) (fun h4 => ?_)
      · have h4 : decide (0 < w) = true := h4
        refine Chk.mk ⟨Int.natCast_nonneg i, (show (i : Int) < na by omega)⟩ ?_
        refine Brn.mk (fun h5 => ?_) (fun h5 => ?_)
        · have h5 : x i = true := h5
          refine Chk.mk ⟨Int.natCast_nonneg i, h3⟩ ?_
          refine Brn.mk (fun h6 => hit (by rw [h4, h5, show decide (r i = w) = true from h6]; rfl)) (fun h6 => ?_)
          have h6 : decide (r i = w) = false := h6
          refine ⟨⟨i + 1, by omega, next (by rw [h4, h5, h6]; rfl)⟩, by show n - (i + 1) < n - i; omega, ?_⟩
          refine wk_of [(3, some 3)] rfl ⟨⟨rfl, rfl⟩, rfl, ⟨rfl, rfl⟩, ⟨wrS (i := i) (by omega), rfl⟩, trivial⟩ ⟨RowLe.fin rfl rfl rfl rfl rfl ?_, trivial⟩
          (repeat' first | exact trivial | exact ⟨by kernel_rfl, by kernel_rfl⟩ | exact Or.inr (by kernel_rfl) | (show _ = _; kernel_rfl) | refine ⟨?_, ?_⟩)
        · have h5 : x i = false := h5
          refine Chk.mk ⟨Int.natCast_nonneg i, (show (i : Int) < nh by omega)⟩ ?_
          refine Brn.mk (fun h6 => ?_) (fun h6 => ?_)
          · have h6 : y i = true := h6
            refine Chk.mk ⟨Int.natCast_nonneg i, h3⟩ ?_
            refine Brn.mk (fun h7 => hit (by rw [h4, h5, h6, show decide (r i = w) = true from h7]; rfl)) (fun h7 => ?_)
            have h7 : decide (r i = w) = false := h7
            refine ⟨⟨i + 1, by omega, next (by rw [h4, h5, h6, h7]; rfl)⟩, by show n - (i + 1) < n - i; omega, ?_⟩
            refine wk_of [(3, some 3)] rfl ⟨⟨rfl, rfl⟩, rfl, ⟨rfl, rfl⟩, ⟨wrS (i := i) (by omega), rfl⟩, trivial⟩ ⟨RowLe.fin rfl rfl rfl rfl rfl ?_, trivial⟩
            (repeat' first | exact trivial | exact ⟨by kernel_rfl, by kernel_rfl⟩ | exact Or.inr (by kernel_rfl) | (show _ = _; kernel_rfl) | refine ⟨?_, ?_⟩)
          · have h6 : y i = false := h6
            refine ⟨⟨i + 1, by omega, next (by rw [h4, h5, h6]; rfl)⟩, by show n - (i + 1) < n - i; omega, ?_⟩
            refine wk_of [(3, some 3)] rfl ⟨⟨rfl, rfl⟩, rfl, ⟨rfl, rfl⟩, ⟨wrS (i := i) (by omega), rfl⟩, trivial⟩ ⟨RowLe.fin rfl rfl rfl rfl rfl ?_, trivial⟩
            (repeat' first | exact trivial | exact ⟨by kernel_rfl, by kernel_rfl⟩ | exact Or.inr (by kernel_rfl) | (show _ = _; kernel_rfl) | refine ⟨?_, ?_⟩)
      · have h4 : decide (0 < w) = false := h4
        refine ⟨⟨i + 1, by omega, next (by rw [h4]; rfl)⟩, by show n - (i + 1) < n - i; omega, ?_⟩
        refine wk_of [(3, some 3)] rfl ⟨⟨rfl, rfl⟩, rfl, ⟨rfl, rfl⟩, ⟨wrS (i := i) (by omega), rfl⟩, trivial⟩ ⟨RowLe.fin rfl rfl rfl rfl rfl ?_, trivial⟩
        (repeat' first | exact trivial | exact ⟨by kernel_rfl, by kernel_rfl⟩ | exact Or.inr (by kernel_rfl) | (show _ = _; kernel_rfl) | refine ⟨?_, ?_⟩)
    · have h3 : ¬ (i : Int) < n := of_decide_eq_false h3
      have hin : i = n := by omega
      rw [hin, Nat.sub_self] at he
      exact AVle.int he
  · trivial
end
end Go.Proofs.Ytiodcjbpfhfmbaa.Img
