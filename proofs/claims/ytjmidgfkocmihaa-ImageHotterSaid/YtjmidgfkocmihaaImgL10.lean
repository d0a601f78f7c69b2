/- Chapter 45: without the reference: a node that the image covers is never hotter than the image. Conditions: none. -/
import Derived.Test.YtjmidgfkocmihaaImgH8
import Derived.Test.YtjmidgfkocmihaaRows
import Derived.ProofKit
namespace Go.Proofs.Ytjmidgfkocmihaa
open Go Go.Proofs.Ytjmidgfkocmihaa.AI Go.Proofs Go.Proofs.Ytjmidgfkocmihaa.Img Go.ChangeShapes Go.WideShapes Go.ChangeAt Go.RowKit
noncomputable section
set_option maxRecDepth 100000

set_option maxHeartbeats 8000000 in
theorem law10 (avs : List AV) (H : ArgAll E0 9 [23, 47, 55] avs) : FnOK Try.prog TE 10 avs (.bit true) := by
  obtain ⟨l1, l2, l3, h1, h2, h3, rfl⟩ := argAll3 H
  obtain ⟨ga, lo, w, t, c, rfl, _⟩ := open23 h1
  obtain ⟨n, na, nl, gf, af, lf, rfl, hg, ha, hl⟩ := openC2 h2
  obtain ⟨nd, ht, ab, m, f, rfl, hf⟩ := open55 h3
  show FnOK Try.prog TE 10 [.agg [.int .i64 ga, .int .i64 lo, .int .i64 w, .int .i64 t, .int .i64 c], .agg [.sl 1 n gf, .sl 1 na af, .sl 1 nl lf], .agg [.int .i64 nd, .int .i64 ht, .int .i64 ab, .sl 3 m f]] (.bit true)
  refine FnOK.args ?_ (m := [.agg [.int .i64 ga, .int .i64 lo, .int .i64 w, .int .i64 t, .int .i64 c], .agg (cfgL n na nl (vI gf) (vI af) (vN lf) (vII lf)), .agg [.int .i64 nd, .int .i64 ht, .int .i64 ab, .sl 3 m (tk3 (vI f) (vJ f) (vK f))]]) ⟨.refl, .aggL ⟨(IsI.mk rfl hg).le1 rfl, (IsI.mk rfl ha).le1 rfl, hl.le1 rfl, trivial⟩, .aggL ⟨Le1.refl, Le1.refl, Le1.refl, hf _, trivial⟩, trivial⟩
  generalize vI gf = g
  generalize vI af = am
  generalize vII lf = lk
  generalize vN lf = rl
  generalize vI f = tp
  generalize vJ f = ta
  generalize vK f = tm
  show FnOK Try.prog TE _ [.agg [.int .i64 ga, .int .i64 lo, .int .i64 w, .int .i64 t, .int .i64 c], .agg [.sl 1 n fun i _ => .int .i64 (g i), .sl 1 na fun i _ => .int .i64 (am i), .sl 1 nl fun i _ => .sl 1 (rl i) fun j _ => .int .i64 (lk i j)], .agg [.int .i64 nd, .int .i64 ht, .int .i64 ab, .sl 3 m (tk3 tp ta tm)]] (.bit true)
  refine fn_ofF tabsOK (specOK_cons ok11 (specOK_cons ok15 (specOK_cons ok22 (specOK_cons ok23 (specOK_cons ok24 (specOK_cons okHChkR (specOK_cons okHStep specOK_nil))))))) mixed Try.func10 (by kernel_rfl) ?_
  have isI : ∀ (k : Nat) (x : Nat → Int), IsI 1 k (fun i _ => .int .i64 (x i)) := fun _ _ => ⟨rfl, fun _ _ => rfl⟩
  refine Brn.mk (fun _ => AVle.bit rfl) (fun _ => ?_)
  refine Chk.mk ⟨isI _ _, isI _ _, isV_mk⟩ ?_
  refine Brn.mk (fun _ => AVle.bit rfl) (fun q2 => ?_)
  have q2 : hchk n na nl g am rl lk = 0 := i2_ndF q2
  refine Brn.mk (fun _ => AVle.bit rfl) (fun q3 => ?_)
  have q3 : ¬ (300 : Int) < m := of_decide_eq_false q3
  obtain ⟨hn0, hn8, ena, enl, hrl, _⟩ := hchk_zero q2
  have gd := good_of q2
  have ena := ena.symm
  have enl := enl.symm
  subst ena enl
  refine Chk.mk ⟨isI _ _, isI _ _, isV_mk⟩ ?_
  obtain ⟨E, hE⟩ : ∃ E, E = covE (chk ga lo w t c) (hchk n n n g am rl lk) n nd := ⟨_, rfl⟩
  have hE2 : E = if chk ga lo w t c = 0 then (if nd < 0 ∨ (n : Int) ≤ nd then 10 else 0) else chk ga lo w t c := by rw [hE, covE, if_pos q2]
  refine Brn.mk (fun q4 => ?_) (fun q4 => ?_)
  · have q4 : ¬ covE (chk ga lo w t c) (hchk n n n g am rl lk) n nd = 0 := i2_ndT q4
    have fin : (!(decide (covE (chk ga lo w t c) (hchk n n n g am rl lk) n nd = 0) && covB ga lo n g am lk nd.toNat)) = true := by rw [decide_eq_false q4]; rfl
    refine Brn.mk (fun _ => ?_) (fun q => absurd (i2_ndF q) q4)
    exact Brn.mk (fun _ => AVle.bit rfl) (fun q => absurd fin (ne_true_of_eq_false q))
  have q4 : covE (chk ga lo w t c) (hchk n n n g am rl lk) n nd = 0 := i2_ndF q4
  refine Brn.mk (fun q5 => ?_) (fun q5 => ?_)
  · have q5 : (!(decide (covE (chk ga lo w t c) (hchk n n n g am rl lk) n nd = 0) && covB ga lo n g am lk nd.toNat)) = true := q5
    refine Brn.mk (fun q => absurd q4 (i2_ndT q)) (fun _ => ?_)
    refine Brn.mk (fun _ => ?_) (fun q => absurd q4 (of_decide_eq_false q))
    exact Brn.mk (fun _ => AVle.bit rfl) (fun q => absurd q5 (ne_true_of_eq_false q))
  have q5 : (!(decide (covE (chk ga lo w t c) (hchk n n n g am rl lk) n nd = 0) && covB ga lo n g am lk nd.toNat)) = false := q5
  rw [decide_eq_true q4, Bool.true_and, Bool.not_eq_false'] at q5
  rw [← hE] at q4
  rw [q4] at hE2
  have q6 : chk ga lo w t c = 0 ∧ ¬ nd < 0 ∧ ¬ (n : Int) ≤ nd := by
    by_cases h : chk ga lo w t c = 0
    · rw [if_pos h] at hE2
      by_cases h2 : nd < 0 ∨ (n : Int) ≤ nd
      · rw [if_pos h2] at hE2; cases hE2
      · exact ⟨h, fun q => h2 (Or.inl q), fun q => h2 (Or.inr q)⟩
    · rw [if_neg h] at hE2; exact absurd hE2.symm h
  obtain ⟨q6, q7, q8⟩ := q6
  obtain ⟨i, rfl⟩ : ∃ i : Nat, nd = i := ⟨nd.toNat, by omega⟩
  rw [Int.toNat_natCast] at q5
  have hi : i < n := by omega
  obtain ⟨cg, cl, cz⟩ := cov_zero q5
  obtain ⟨rg, rl0⟩ := chk_rng q6
  have hb : (0 : Int) ≤ (i : Int) ∧ (i : Int) < (n : Int) := ⟨by omega, by omega⟩
  refine Brn.mk (fun q => absurd (of_decide_eq_true q) q7) (fun _ => ?_)
  refine Brn.mk (fun q => absurd (of_decide_eq_true q) q8) (fun _ => ?_)
  refine Chk.mk ⟨Int.natCast_nonneg n, Int.le_refl _, (show (8 : Int) * n ≤ 281474976710656 by omega), (show (n : Int) ≤ 9223372036854775807 by omega)⟩ ?_
  obtain ⟨a, hA⟩ : ∃ a, a = max (-8388608) (min ab 8388608) := ⟨_, rfl⟩
  obtain ⟨st, hS⟩ : ∃ st, st = max (-1099511627776) (min ht 1099511627776) := ⟨_, rfl⟩
  have ha2 : -8388608 ≤ a ∧ a ≤ 8388608 := by omega
  refine LoopOK.mk ⟨{ k : Nat // k ≤ n }, fun k => mkSt [(3, .loc 3 0), (4, .loc 4 0), (5, .loc 5 0), (9, .int .i64 a), (10, .int .i64 st), (11, .own 100 n), (12, .int .i64 k.1)]
    [(3, ⟨23, 5, 1, fun _ k => nth [.int .i64 ga, .int .i64 lo, .int .i64 w, .int .i64 t, .int .i64 c] k, 0, true⟩), (4, ⟨47, 3, 1, fun _ k => nth [.sl 1 n fun i _ => .int .i64 (g i), .sl 1 n fun i _ => .int .i64 (am i), .sl 1 n fun i _ => .sl 1 (rl i) fun j _ => .int .i64 (lk i j)] k, 0, true⟩), (5, ⟨55, 4, 1, fun _ k => nth [.int .i64 i, .int .i64 ht, .int .i64 ab, .sl 3 m (tk3 tp ta tm)] k, 0, true⟩), (100, ⟨3, 1, n, fun j _ => .int .i64 (if j < k.1 then st else 0), 0, false⟩)], fun k => n - k.1, ⟨⟨0, Nat.zero_le _⟩, ?_⟩, ?_⟩
  · refine wk_of [(3, some 3), (4, some 4), (5, some 5), (100, some 102)] rfl ⟨rfl, rfl, rfl, ⟨congrArg (AV.int .i64) hA.symm, rfl⟩, ⟨congrArg (AV.int .i64) hS.symm, rfl⟩, rfl, ⟨rfl, rfl⟩, trivial⟩ ⟨RowLe.fin rfl rfl rfl rfl rfl ?_, RowLe.fin rfl rfl rfl rfl rfl ?_, RowLe.fin rfl rfl rfl rfl rfl ?_, ⟨rfl, rfl, rfl, rfl, rfl, fun x y _ hy => Or.inr ?_⟩, trivial⟩
    · (repeat' first | exact trivial | exact ⟨by kernel_rfl, by kernel_rfl⟩ | exact Or.inr (by kernel_rfl) | (show _ = _; kernel_rfl) | refine ⟨?_, ?_⟩)
    · (repeat' first | exact trivial | exact ⟨by kernel_rfl, by kernel_rfl⟩ | exact Or.inr (by kernel_rfl) | (show _ = _; kernel_rfl) | refine ⟨?_, ?_⟩)
    · (repeat' first | exact trivial | exact ⟨by kernel_rfl, by kernel_rfl⟩ | exact Or.inr (by kernel_rfl) | (show _ = _; kernel_rfl) | refine ⟨?_, ?_⟩)
    · have hy : y < 1 := hy
      have : y = 0 := by omega
      subst this; rfl
  rintro ⟨k, hk⟩
  have hk : k ≤ n := hk
  refine Brn.mk (fun h1 => ?_) (fun h1 => ?_)
  · have h1 : (k : Int) < n := of_decide_eq_true h1
    refine Chk.mk ⟨Int.natCast_nonneg k, h1⟩ ?_
    refine ⟨⟨k + 1, by omega⟩, by show n - (k + 1) < n - k; omega, ?_⟩
    refine wk_of [(3, some 3), (4, some 4), (5, some 5), (100, some 100)] rfl ⟨rfl, rfl, rfl, ⟨rfl, rfl⟩, ⟨rfl, rfl⟩, rfl, ⟨wrS (i := k) (by omega), rfl⟩, trivial⟩ ⟨RowLe.fin rfl rfl rfl rfl rfl ?_, RowLe.fin rfl rfl rfl rfl rfl ?_, RowLe.fin rfl rfl rfl rfl rfl ?_, RowLe.upd (i := k) (fun j => .int .i64 (if j < k + 1 then st else 0)) rfl rfl rfl (fun j _ hj => ?_) ?_, trivial⟩
    · (repeat' first | exact trivial | exact ⟨by kernel_rfl, by kernel_rfl⟩ | exact Or.inr (by kernel_rfl) | (show _ = _; kernel_rfl) | refine ⟨?_, ?_⟩)
    · (repeat' first | exact trivial | exact ⟨by kernel_rfl, by kernel_rfl⟩ | exact Or.inr (by kernel_rfl) | (show _ = _; kernel_rfl) | refine ⟨?_, ?_⟩)
    · (repeat' first | exact trivial | exact ⟨by kernel_rfl, by kernel_rfl⟩ | exact Or.inr (by kernel_rfl) | (show _ = _; kernel_rfl) | refine ⟨?_, ?_⟩)
    · refine congrArg (AV.int .i64) ?_
      by_cases q : j < k
      · rw [if_pos q, if_pos (show j < k + 1 by omega)]
      · rw [if_neg q, if_neg (show ¬ j < k + 1 by omega)]
    · exact congrArg (AV.int .i64) (if_pos (by omega)).symm
  have h1 : ¬ (k : Int) < n := of_decide_eq_false h1
  have hkn : k = n := by omega
  have eAm : wr (a * 65536) = a * 65536 := wr_id (by omega) (by omega)
  refine LoopOK.mk ⟨{ p : Bool × Nat × (Nat → Int) × Int // p.2.1 ≤ m ∧ p.2.2.1 i ≤ p.2.2.2 ∧ a * 65536 ≤ p.2.2.2 }, fun p => match p.1.1 with
    | true => mkSt [(3, .loc 3 0), (4, .loc 4 0), (5, .loc 5 0), (9, .int .i64 a), (11, .own 100 n), (13, .int .i64 p.1.2.2.2), (14, .int .i64 p.1.2.1)] [(3, ⟨23, 5, 1, fun _ k => nth [.int .i64 ga, .int .i64 lo, .int .i64 w, .int .i64 t, .int .i64 c] k, 0, true⟩), (4, ⟨47, 3, 1, fun _ k => nth [.sl 1 n fun i _ => .int .i64 (g i), .sl 1 n fun i _ => .int .i64 (am i), .sl 1 n fun i _ => .sl 1 (rl i) fun j _ => .int .i64 (lk i j)] k, 0, true⟩), (5, ⟨55, 4, 1, fun _ k => nth [.int .i64 i, .int .i64 ht, .int .i64 ab, .sl 3 m (tk3 tp ta tm)] k, 0, true⟩), (100, ⟨3, 1, n, fun j _ => .int .i64 (p.1.2.2.1 j), 0, false⟩)]
    | false => mkSt [(3, .loc 3 0), (4, .loc 4 0), (5, .loc 5 0), (9, .int .i64 a), (11, .sl 1 n fun j _ => .int .i64 (p.1.2.2.1 j)), (13, .int .i64 p.1.2.2.2), (14, .int .i64 p.1.2.1)] [(3, ⟨23, 5, 1, fun _ k => nth [.int .i64 ga, .int .i64 lo, .int .i64 w, .int .i64 t, .int .i64 c] k, 0, true⟩), (4, ⟨47, 3, 1, fun _ k => nth [.sl 1 n fun i _ => .int .i64 (g i), .sl 1 n fun i _ => .int .i64 (am i), .sl 1 n fun i _ => .sl 1 (rl i) fun j _ => .int .i64 (lk i j)] k, 0, true⟩), (5, ⟨55, 4, 1, fun _ k => nth [.int .i64 i, .int .i64 ht, .int .i64 ab, .sl 3 m (tk3 tp ta tm)] k, 0, true⟩)], fun p => m - p.1.2.1, ⟨⟨(true, 0, fun _ => st, max st (a * 65536)), Nat.zero_le _, by show st ≤ max st (a * 65536); omega, by show a * 65536 ≤ max st (a * 65536); omega⟩, ?_⟩, ?_⟩
  · refine wk_of [(3, some 3), (4, some 4), (5, some 5), (100, some 100)] rfl ⟨rfl, rfl, rfl, ⟨rfl, rfl⟩, rfl, ⟨congrArg (AV.int .i64) (by rw [eAm]), rfl⟩, ⟨rfl, rfl⟩, trivial⟩ ⟨RowLe.fin rfl rfl rfl rfl rfl ?_, RowLe.fin rfl rfl rfl rfl rfl ?_, RowLe.fin rfl rfl rfl rfl rfl ?_, ⟨rfl, rfl, rfl, rfl, rfl, fun x y hx _ => Or.inr ?_⟩, trivial⟩
    · (repeat' first | exact trivial | exact ⟨by kernel_rfl, by kernel_rfl⟩ | exact Or.inr (by kernel_rfl) | (show _ = _; kernel_rfl) | refine ⟨?_, ?_⟩)
    · (repeat' first | exact trivial | exact ⟨by kernel_rfl, by kernel_rfl⟩ | exact Or.inr (by kernel_rfl) | (show _ = _; kernel_rfl) | refine ⟨?_, ?_⟩)
    · (repeat' first | exact trivial | exact ⟨by kernel_rfl, by kernel_rfl⟩ | exact Or.inr (by kernel_rfl) | (show _ = _; kernel_rfl) | refine ⟨?_, ?_⟩)
    · have hx : x < n := hx
      exact congrArg (AV.int .i64) (if_pos (show x < k by omega)).symm
  rintro ⟨⟨b, k2, hs, own⟩, hk2, ho, hao⟩
  have hk2 : k2 ≤ m := hk2
  have ho : hs i ≤ own := ho
  have hao : a * 65536 ≤ own := hao
  cases b with
  | true =>
    refine Brn.mk (fun h2 => ?_) (fun _ => AVle.bit rfl)
    have h2 : (k2 : Int) < m := of_decide_eq_true h2
    refine Chk.mk ⟨Int.natCast_nonneg k2, h2⟩ ?_
    refine Chk.mk ⟨Int.natCast_nonneg n, Int.le_refl _, (show (8 : Int) * n ≤ 281474976710656 by omega), (show (n : Int) ≤ 9223372036854775807 by omega)⟩ ?_
    refine Chk.mk hb ?_
    refine Chk.mk (by kernel_rfl) ?_
    refine Chk.mk ⟨⟨isI _ _, isI _ _, isV_mk⟩, isI _ _, updZ⟩ ?_
    refine Chk.mk hb ?_
    conv =>
      whnf
      arg 2
      rw [ldI]
    have HN := hot_next (ps := vI (updF (fun _ j => nth [AV.int .i64 0] j) i 0 [AV.int .i64 (max 0 (min (tp k2) 1073741824))])) (p := wr (max 0 (min (tp k2) 1073741824) + max 0 (min (tm k2) 1073741824))) (amb := min (ta k2) a) hi gd cz rg rl0.1 cl cg ho hao ha2 (by omega) (pow_le rfl)
    have se := stepErr0 (n := n) q2
    refine Brn.mk (fun q => absurd se (i2_ndT q)) (fun _ => ?_)
    refine Brn.mk (fun q => absurd q6 (i2_ndT q)) (fun _ => ?_)
    have eo : outN (stepErr (hchk n n n g am rl lk) n n n) n = n := by rw [se]; rfl
    refine Brn.mk (fun q => absurd (show ((outN (stepErr (hchk n n n g am rl lk) n n n) n : Nat) : Int) = (n : Int) by rw [eo]) (i2_ndT q)) (fun _ => ?_)
    refine Chk.mk (show (0 : Int) ≤ (i : Int) ∧ (i : Int) < ((outN (stepErr (hchk n n n g am rl lk) n n n) n : Nat) : Int) by rw [eo]; exact hb) ?_
    refine Brn.mk (fun q => absurd (of_decide_eq_true (show decide (okI (chk ga lo w t c) (stepI ga lo own (wr (max 0 (min (tp k2) 1073741824) + max 0 (min (tm k2) 1073741824))) a) < stepR n g am lk hs (vI (updF (fun _ j => nth [AV.int .i64 0] j) i 0 [AV.int .i64 (max 0 (min (tp k2) 1073741824))])) (min (ta k2) a) i) = true from q)) (by rw [okI0 q6]; exact Int.not_lt.mpr HN.1)) (fun _ => ?_)
    refine ⟨⟨(false, k2 + 1, stepR n g am lk hs (vI (updF (fun _ j => nth [AV.int .i64 0] j) i 0 [AV.int .i64 (max 0 (min (tp k2) 1073741824))])) (min (ta k2) a), stepI ga lo own (wr (max 0 (min (tp k2) 1073741824) + max 0 (min (tm k2) 1073741824))) a), by show k2 + 1 ≤ m; omega, HN.1, HN.2⟩, by show m - (k2 + 1) < m - k2; omega, ?_⟩
    refine wk_of [(3, some 3), (4, some 4), (5, some 5)] rfl ⟨rfl, rfl, rfl, ⟨rfl, rfl⟩, renS eo rfl, ⟨congrArg (AV.int .i64) (okI0 q6), rfl⟩, ⟨wrS (i := k2) (by omega), rfl⟩, trivial⟩ ⟨RowLe.fin rfl rfl rfl rfl rfl ?_, RowLe.fin rfl rfl rfl rfl rfl ?_, RowLe.fin rfl rfl rfl rfl rfl ?_, trivial⟩
    all_goals (repeat' first | exact trivial | exact ⟨by kernel_rfl, by kernel_rfl⟩ | exact Or.inr (by kernel_rfl) | (show _ = _; kernel_rfl) | refine ⟨?_, ?_⟩)
  | false =>
    refine Brn.mk (fun h2 => ?_) (fun _ => AVle.bit rfl)
    have h2 : (k2 : Int) < m := of_decide_eq_true h2
    refine Chk.mk ⟨Int.natCast_nonneg k2, h2⟩ ?_
    refine Chk.mk ⟨Int.natCast_nonneg n, Int.le_refl _, (show (8 : Int) * n ≤ 281474976710656 by omega), (show (n : Int) ≤ 9223372036854775807 by omega)⟩ ?_
    refine Chk.mk hb ?_
    refine Chk.mk (by kernel_rfl) ?_
    refine Chk.mk ⟨⟨isI _ _, isI _ _, isV_mk⟩, isI _ _, updZ⟩ ?_
    refine Chk.mk hb ?_
    conv =>
      whnf
      arg 2
      rw [ldI]
    have HN := hot_next (ps := vI (updF (fun _ j => nth [AV.int .i64 0] j) i 0 [AV.int .i64 (max 0 (min (tp k2) 1073741824))])) (p := wr (max 0 (min (tp k2) 1073741824) + max 0 (min (tm k2) 1073741824))) (amb := min (ta k2) a) hi gd cz rg rl0.1 cl cg ho hao ha2 (by omega) (pow_le rfl)
    have se := stepErr0 (n := n) q2
    refine Brn.mk (fun q => absurd se (i2_ndT q)) (fun _ => ?_)
    refine Brn.mk (fun q => absurd q6 (i2_ndT q)) (fun _ => ?_)
    have eo : outN (stepErr (hchk n n n g am rl lk) n n n) n = n := by rw [se]; rfl
    refine Brn.mk (fun q => absurd (show ((outN (stepErr (hchk n n n g am rl lk) n n n) n : Nat) : Int) = (n : Int) by rw [eo]) (i2_ndT q)) (fun _ => ?_)
    refine Chk.mk (show (0 : Int) ≤ (i : Int) ∧ (i : Int) < ((outN (stepErr (hchk n n n g am rl lk) n n n) n : Nat) : Int) by rw [eo]; exact hb) ?_
    refine Brn.mk (fun q => absurd (of_decide_eq_true (show decide (okI (chk ga lo w t c) (stepI ga lo own (wr (max 0 (min (tp k2) 1073741824) + max 0 (min (tm k2) 1073741824))) a) < stepR n g am lk hs (vI (updF (fun _ j => nth [AV.int .i64 0] j) i 0 [AV.int .i64 (max 0 (min (tp k2) 1073741824))])) (min (ta k2) a) i) = true from q)) (by rw [okI0 q6]; exact Int.not_lt.mpr HN.1)) (fun _ => ?_)
    refine ⟨⟨(false, k2 + 1, stepR n g am lk hs (vI (updF (fun _ j => nth [AV.int .i64 0] j) i 0 [AV.int .i64 (max 0 (min (tp k2) 1073741824))])) (min (ta k2) a), stepI ga lo own (wr (max 0 (min (tp k2) 1073741824) + max 0 (min (tm k2) 1073741824))) a), by show k2 + 1 ≤ m; omega, HN.1, HN.2⟩, by show m - (k2 + 1) < m - k2; omega, ?_⟩
    refine wk_of [(3, some 3), (4, some 4), (5, some 5)] rfl ⟨rfl, rfl, rfl, ⟨rfl, rfl⟩, renS eo rfl, ⟨congrArg (AV.int .i64) (okI0 q6), rfl⟩, ⟨wrS (i := k2) (by omega), rfl⟩, trivial⟩ ⟨RowLe.fin rfl rfl rfl rfl rfl ?_, RowLe.fin rfl rfl rfl rfl rfl ?_, RowLe.fin rfl rfl rfl rfl rfl ?_, trivial⟩
    all_goals (repeat' first | exact trivial | exact ⟨by kernel_rfl, by kernel_rfl⟩ | exact Or.inr (by kernel_rfl) | (show _ = _; kernel_rfl) | refine ⟨?_, ?_⟩)

theorem lifted10 (os : Os) (started : os.Started) (H : Type) (enc : TypeId × Value → H) :
    ReturnsInHanded {} Try.checked os 10 .any (Rows.imageHotterSpec.pre6 enc Try.prog Try.f10 Rows.imageHotterRow.domain false) (Rows.imageHotterSpec.post enc Try.prog Try.f10 false true false false) := by
  refine returnsInHanded_of_change (C := Try.checked) own0 started (by kernel_rfl) Try.func10
    (ChangeSpec.witness6 (enc := enc) (C := Try.checked) false ⟨#[], #[.agg #[.int .i64 0, .int .i64 0, .int .i64 0, .int .i64 0, .int .i64 0], .agg #[.slice none 0 0, .slice none 0 0, .slice none 0 0], .agg #[.int .i64 0, .int .i64 0, .int .i64 0, .slice none 0 0]], []⟩ 8 (by kernel_rfl) (by kernel_rfl) (by kernel_rfl) (by kernel_rfl)) ?_
  intro W base args ds gs before hval hW _ _
  exact law_contract tabE0 (d := 9) (tb := 4) [23, 47, 55] (by kernel_rfl) (by kernel_rfl) (by kernel_rfl) rfl laidOut0 (by kernel_rfl) (by kernel_rfl)
    (fun H ds h => match ds, h with | [_, _, _], _ => rfl) law10 hval hW

theorem ImageHotter_proved : Rows.ImageHotterSaid :=
  OpenClaim.holds_of_wide (p := Try.pinned) (s := Rows.imageHotterSpec) (c := Rows.imageHotterRow) 10 Try.f10 rfl rfl rfl rfl rfl rfl rfl ⟨rfl, rfl, rfl, rfl, rfl⟩ rfl rfl rfl rfl rfl (by kernel_rfl) Try.func10 (by kernel_rfl)
    (of_decide_eq_true (by kernel_rfl)) (by unfold Func.isWrapper; rw [if_neg (of_decide_eq_false (by kernel_rfl))]; exact ⟨rfl, rfl⟩)
    (fun os started H enc _ => lifted10 os started H enc)
end
end Go.Proofs.Ytjmidgfkocmihaa
