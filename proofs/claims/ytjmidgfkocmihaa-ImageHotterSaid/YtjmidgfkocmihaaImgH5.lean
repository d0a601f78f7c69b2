/- Chapter 45: whether an image covers a node. Conditions: none. -/
import Derived.Test.YtjmidgfkocmihaaImgH4
namespace Go.Proofs.Ytjmidgfkocmihaa.Img
open Go Go.Proofs.Ytjmidgfkocmihaa.AI Go.Proofs
noncomputable section
set_option maxRecDepth 100000
theorem i2_ndT {a b : Int} (h : (!decide (a = b)) = true) : ¬ a = b := fun e => by rw [e, decide_eq_true rfl] at h; cases h
theorem i2_ndF {a b : Int} (h : (!decide (a = b)) = false) : a = b := by
  rw [Bool.not_eq_false'] at h; exact of_decide_eq_true h
def largeB (n na nl : Nat) : Bool := decide (50 < (n : Int)) || decide (50 < (na : Int)) || decide (50 < (nl : Int))
def sLarge : Sp
  | [.agg [.sl _ n _, .sl _ na _, .sl _ nl _]] => .ok (.bit (largeB n na nl))
  | _ => .no
theorem ok23 : EntOK Try.prog TE 23 sLarge := by
  refine ⟨callable_of Try.func23 (by kernel_rfl), fun args => ?_⟩
  unfold sLarge
  split
  · refine fn_ofF tabsOK specOK_nil mixed Try.func23 (by kernel_rfl) ?_
    refine Brn.mk (fun h => ?_) (fun h => ?_)
    · refine AVle.bit ?_
      rw [largeB, h]; rfl
    refine Brn.mk (fun h2 => ?_) (fun h2 => ?_)
    · refine AVle.bit ?_
      rw [largeB, h, h2]; rfl
    · refine AVle.bit ?_
      rw [largeB, h, h2]; rfl
  · trivial
def nzB (x : Int) : Bool := !decide (x = 0)
def sNz : Sp
  | [.int .i64 x] => .ok (.bit (nzB x))
  | _ => .no
theorem ok35 : EntOK Try.prog TE 35 sNz := by
  refine ⟨callable_of Try.func35 (by kernel_rfl), fun args => ?_⟩
  unfold sNz
  split
  · refine fn_ofF tabsOK specOK_nil mixed Try.func35 (by kernel_rfl) ?_
    exact AVle.bit rfl
  · trivial
structure IdxI (F s n : Nat) (f : Nat → Nat → AV) : Prop where
  F : F = 35
  f : IsI s n f
  n : n ≤ 1000
def sIdx : Sp
  | [.sl s n f, .clo F [] []] => .pre (IdxI F s n f) (.int .i64 (idxF (fun i => nzB (vI f i)) n 0))
  | _ => .no
theorem ok45 : EntOK Try.prog TE 45 sIdx := by
  refine ⟨callable_of Try.func45 (by kernel_rfl), fun args => ?_⟩
  unfold sIdx
  split
  · rename_i s n f F
    rintro ⟨rfl, hf, hn⟩
    refine FnOK.args (m := [.sl 1 n (fun i _ => .int .i64 (vI f i)), .clo 35 [] []]) ?_ ⟨le2_sl (hf.le1 rfl), fun _ _ _ h => h, trivial⟩
    generalize vI f = r
    refine fn_ofF tabsOK (specOK_cons ok35 specOK_nil) mixed Try.func45 (by kernel_rfl) ?_
    refine LoopOK.mk ⟨{ i : Nat // i ≤ n ∧ idxF (fun i => nzB (r i)) (n - i) i = idxF (fun i => nzB (r i)) n 0 }, fun i => mkSt [(0, .sl 1 n (fun i _ => .int .i64 (r i))), (1, .clo 35 [] []), (7, .int .i64 n), (8, .int .i64 i.1)]
      [], fun i => n - i.1, ⟨⟨0, by omega, rfl⟩, ?_⟩, ?_⟩
    · exact wk_of [] rfl ⟨⟨rfl, rfl⟩, ⟨rfl, rfl⟩, ⟨rfl, rfl⟩, ⟨rfl, rfl⟩, trivial⟩ trivial
    rintro ⟨i, hi, he⟩
    refine Brn.mk (fun h => ?_) (fun h => ?_)
    · have h : (i : Int) < n := of_decide_eq_true h
      refine Chk.mk ⟨Int.natCast_nonneg i, h⟩ ?_
      refine Brn.mk (fun h2 => AVle.int ((idxF_hit (p := fun i => nzB (r i)) (i := i) (by omega) h2).symm.trans he)) (fun h2 => ?_)
      refine ⟨⟨i + 1, by omega, (idxF_miss (p := fun i => nzB (r i)) (i := i) (by omega) h2).symm.trans he⟩, by show n - (i + 1) < n - i; omega, ?_⟩
      exact wk_of [] rfl ⟨⟨rfl, rfl⟩, ⟨rfl, rfl⟩, ⟨rfl, rfl⟩, ⟨wrS (i := i) (by omega), rfl⟩, trivial⟩ trivial
    · have h : ¬ (i : Int) < n := of_decide_eq_false h
      have : i = n := by omega
      subst this
      rw [Nat.sub_self] at he
      exact AVle.int he
  · trivial
def sCon : Sp
  | [.sl s n f, .clo F [] []] => .pre (IdxI F s n f) (.bit (anyP (fun i => nzB (vI f i)) n 0))
  | _ => .no
theorem ok34 : EntOK Try.prog TE 34 sCon := by
  refine ⟨callable_of Try.func34 (by kernel_rfl), fun args => ?_⟩
  unfold sCon
  split
  · intro H
    refine fn_ofF tabsOK (specOK_cons ok45 specOK_nil) mixed Try.func34 (by kernel_rfl) ?_
    exact Chk.mk H (AVle.bit (idxF_any _ _ _))
  · trivial
/-- The answer where there is no error. -/
def covB (ga lo : Int) (n : Nat) (g am : Nat → Int) (lk : Nat → Nat → Int) (i : Nat) : Bool :=
  (decide (g i ≤ ga) && decide (lo ≤ am i)) && !anyP (fun j => nzB (lk i j)) n 0
def covE (c h : Int) (n : Nat) (i : Int) : Int := if c = 0 then (if h = 0 then (if i < 0 ∨ (n : Int) ≤ i then 10 else 0) else h) else c
def sCovR : Sp
  | [.agg [.int .i64 ga, .int .i64 lo, .int .i64 _, .int .i64 _, .int .i64 _], .agg [.sl s1 n gf, .sl s2 na af, .sl s3 nl lf], .int .i64 i] =>
    .pre ((IsI s1 n gf ∧ IsI s2 na af ∧ IsV s3 nl lf) ∧ (n = na ∧ n = nl ∧ n ≤ 8 ∧ ∀ k, k < n → vN lf k = n) ∧ 0 ≤ i ∧ i < n) (.bit (covB ga lo n (vI gf) (vI af) (vII lf) i.toNat))
  | _ => .no
theorem ok26 : EntOK Try.prog TE 26 sCovR := by
  refine ⟨callable_of Try.func26 (by kernel_rfl), fun args => ?_⟩
  unfold sCovR
  split
  · rename_i ga lo w t c s1 n gf s2 na af s3 nl lf iz
    rintro ⟨⟨h1, h2, h3⟩, ⟨e1, e2, hn, hrl⟩, hi0, hi⟩
    subst e1 e2
    obtain ⟨i, rfl⟩ : ∃ i : Nat, iz = i := ⟨iz.toNat, by omega⟩
    have hi : i < n := by omega
    refine FnOK.args ?_ (m := [.agg [.int .i64 ga, .int .i64 lo, .int .i64 w, .int .i64 t, .int .i64 c], .agg (cfgL n n n (vI gf) (vI af) (vN lf) (vII lf)), .int .i64 i]) ⟨.refl, .aggL ⟨h1.le1 rfl, h2.le1 rfl, h3.le1 rfl, trivial⟩, .refl, trivial⟩
    generalize vI gf = g
    generalize vI af = am
    generalize vII lf = lk
    generalize vN lf = rl at hrl
    have hb : (0 : Int) ≤ (i : Int) ∧ (i : Int) < (n : Int) := ⟨by omega, by omega⟩
    rw [Int.toNat_natCast]
    show FnOK Try.prog TE _ [.agg [.int .i64 ga, .int .i64 lo, .int .i64 w, .int .i64 t, .int .i64 c], .agg [.sl 1 n fun i _ => .int .i64 (g i), .sl 1 n fun i _ => .int .i64 (am i), .sl 1 n fun i _ => .sl 1 (rl i) fun j _ => .int .i64 (lk i j)], .int .i64 i] (.bit (covB ga lo n g am lk i))
    refine fn_ofF tabsOK specOK_nil mixed Try.func26 (by kernel_rfl) ?_
    refine LoopOK.mk ⟨{ j : Nat // j ≤ n ∧ anyP (fun j => nzB (lk i j)) (n - j) j = anyP (fun j => nzB (lk i j)) n 0 }, fun j => mkSt [(2, .int .i64 i), (3, .loc 3 0), (4, .loc 4 0), (7, .int .i64 j.1)]
      [(3, ⟨23, 5, 1, fun _ k => nth [.int .i64 ga, .int .i64 lo, .int .i64 w, .int .i64 t, .int .i64 c] k, 0, true⟩), (4, ⟨47, 3, 1, fun _ k => nth [.sl 1 n fun i _ => .int .i64 (g i), .sl 1 n fun i _ => .int .i64 (am i), .sl 1 n fun i _ => .sl 1 (rl i) fun j _ => .int .i64 (lk i j)] k, 0, true⟩)], fun j => n - j.1, ⟨⟨0, Nat.zero_le _, rfl⟩, ?_⟩, ?_⟩
    · refine wk_of [(3, some 3), (4, some 4)] rfl ⟨⟨rfl, rfl⟩, rfl, rfl, ⟨rfl, rfl⟩, trivial⟩ ⟨RowLe.fin rfl rfl rfl rfl rfl ?_, RowLe.fin rfl rfl rfl rfl rfl ?_, trivial⟩
      all_goals (repeat' first | exact trivial | exact ⟨by kernel_rfl, by kernel_rfl⟩ | exact Or.inr (by kernel_rfl) | (show _ = _; kernel_rfl) | refine ⟨?_, ?_⟩)
    rintro ⟨j, hj, he⟩
    have hj : j ≤ n := hj
    refine Brn.mk (fun h => ?_) (fun h => ?_)
    · have h : (j : Int) < n := of_decide_eq_true h
      refine Chk.mk hb ?_
      refine Chk.mk (show (0 : Int) ≤ (j : Int) ∧ (j : Int) < (rl i : Int) by rw [hrl i hi]; exact ⟨Int.natCast_nonneg j, h⟩) ?_
      refine Brn.mk (fun h2 => AVle.bit ?_) (fun h2 => ?_)
      · have h2 : nzB (lk i j) = true := h2
        rw [covB, ← he, anyP_hit (p := fun j => nzB (lk i j)) (by omega) h2, Bool.not_true, Bool.and_false]
      · have h2 : nzB (lk i j) = false := h2
        refine ⟨⟨j + 1, by omega, (anyP_miss (p := fun j => nzB (lk i j)) (by omega) h2).symm.trans he⟩, by show n - (j + 1) < n - j; omega, ?_⟩
        refine wk_of [(3, some 3), (4, some 4)] rfl ⟨⟨rfl, rfl⟩, rfl, rfl, ⟨wrS (i := j) (by omega), rfl⟩, trivial⟩ ⟨RowLe.fin rfl rfl rfl rfl rfl ?_, RowLe.fin rfl rfl rfl rfl rfl ?_, trivial⟩
        all_goals (repeat' first | exact trivial | exact ⟨by kernel_rfl, by kernel_rfl⟩ | exact Or.inr (by kernel_rfl) | (show _ = _; kernel_rfl) | refine ⟨?_, ?_⟩)
    · have h : ¬ (j : Int) < n := of_decide_eq_false h
      have : j = n := by omega
      rw [this, Nat.sub_self] at he
      have he : anyP (fun j => nzB (lk i j)) n 0 = false := he.symm
      refine Chk.mk hb ?_
      refine Brn.mk (fun h2 => ?_) (fun h2 => AVle.bit ?_)
      · have h2 : decide (g i ≤ ga) = true := h2
        refine Chk.mk hb (AVle.bit ?_)
        show decide (lo ≤ am i) = _
        rw [covB, he, h2]
        cases decide (lo ≤ am i) <;> rfl
      · have h2 : decide (g i ≤ ga) = false := h2
        rw [covB, h2]; rfl
  · trivial
def sCov : Sp
  | [.agg [.int .i64 ga, .int .i64 lo, .int .i64 w, .int .i64 t, .int .i64 c], .agg [.sl s1 n gf, .sl s2 na af, .sl s3 nl lf], .int .i64 i] =>
    .pre (IsI s1 n gf ∧ IsI s2 na af ∧ IsV s3 nl lf) (.tup [.bit (decide (covE (chk ga lo w t c) (hchk n na nl (vI gf) (vI af) (vN lf) (vII lf)) n i = 0) && covB ga lo n (vI gf) (vI af) (vII lf) i.toNat), .err (covE (chk ga lo w t c) (hchk n na nl (vI gf) (vI af) (vN lf) (vII lf)) n i)])
  | _ => .no
theorem ok24 : EntOK Try.prog TE 24 sCov := by
  refine ⟨callable_of Try.func24 (by kernel_rfl), fun args => ?_⟩
  unfold sCov
  split
  · rename_i ga lo w t c s1 n gf s2 na af s3 nl lf iz
    rintro ⟨h1, h2, h3⟩
    refine FnOK.args ?_ (m := [.agg [.int .i64 ga, .int .i64 lo, .int .i64 w, .int .i64 t, .int .i64 c], .agg (cfgL n na nl (vI gf) (vI af) (vN lf) (vII lf)), .int .i64 iz]) ⟨.refl, .aggL ⟨h1.le1 rfl, h2.le1 rfl, h3.le1 rfl, trivial⟩, .refl, trivial⟩
    generalize vI gf = g
    generalize vI af = am
    generalize vII lf = lk
    generalize vN lf = rl
    show FnOK Try.prog TE _ [.agg [.int .i64 ga, .int .i64 lo, .int .i64 w, .int .i64 t, .int .i64 c], .agg [.sl 1 n fun i _ => .int .i64 (g i), .sl 1 na fun i _ => .int .i64 (am i), .sl 1 nl fun i _ => .sl 1 (rl i) fun j _ => .int .i64 (lk i j)], .int .i64 iz] _
    refine fn_ofF tabsOK (specOK_cons ok13 (specOK_cons okHChk (specOK_cons ok34 specOK_nil))) mixed Try.func24 (by kernel_rfl) ?_
    have bad : ∀ e : Int, ¬ e = 0 → covE (chk ga lo w t c) (hchk n na nl g am rl lk) n iz = e → ∀ v : AV, v = .err e → AVle TE (.tup [.bit false, v]) (.tup [.bit (decide (covE (chk ga lo w t c) (hchk n na nl g am rl lk) n iz = 0) && covB ga lo n g am lk iz.toNat), .err (covE (chk ga lo w t c) (hchk n na nl g am rl lk) n iz)]) := fun e he hs v hv => by
      subst hv
      rw [hs, decide_eq_false he, Bool.false_and]
      exact AVle.refl
    refine Brn.mk (fun q => ?_) (fun q => ?_)
    · have q : ¬ chk ga lo w t c = 0 := i2_ndT q
      exact bad _ q (if_neg q) _ rfl
    have q1 : chk ga lo w t c = 0 := i2_ndF q
    refine Chk.mk ⟨⟨rfl, fun _ _ => rfl⟩, ⟨rfl, fun _ _ => rfl⟩, isV_mk⟩ ?_
    refine Brn.mk (fun q => ?_) (fun q => ?_)
    · have q : ¬ hchk n na nl g am rl lk = 0 := i2_ndT q
      exact bad _ q (by rw [covE, if_pos q1, if_neg q]) _ rfl
    have q2 : hchk n na nl g am rl lk = 0 := i2_ndF q
    obtain ⟨hn0, hn8, ena, enl, hrl, _⟩ := hchk_zero q2
    have ena := ena.symm
    have enl := enl.symm
    subst ena enl
    refine Brn.mk (fun q => Chk.mk (by decide) (bad 10 (by decide) ?_ _ rfl)) (fun q => ?_)
    · have q : iz < 0 := of_decide_eq_true q
      rw [covE, if_pos q1, if_pos q2, if_pos (Or.inl q)]
    have q3 : ¬ iz < 0 := of_decide_eq_false q
    refine Brn.mk (fun q => Chk.mk (by decide) (bad 10 (by decide) ?_ _ rfl)) (fun q => ?_)
    · have q : (n : Int) ≤ iz := of_decide_eq_true q
      rw [covE, if_pos q1, if_pos q2, if_pos (Or.inr q)]
    have q4 : ¬ (n : Int) ≤ iz := of_decide_eq_false q
    obtain ⟨i, rfl⟩ : ∃ i : Nat, iz = i := ⟨iz.toNat, by omega⟩
    have hb : (0 : Int) ≤ (i : Int) ∧ (i : Int) < (n : Int) := ⟨by omega, by omega⟩
    have hi : i < n := by omega
    have e0 : covE (chk ga lo w t c) (hchk n n n g am rl lk) n i = 0 := by rw [covE, if_pos q1, if_pos q2, if_neg (by omega)]
    rw [Int.toNat_natCast, e0]
    refine Chk.mk hb ?_
    refine Chk.mk ⟨rfl, ⟨rfl, fun _ _ => rfl⟩, (show rl i ≤ 1000 by rw [hrl i hi]; omega)⟩ ?_
    have eA : anyP (fun j => nzB (lk i j)) (rl i) 0 = anyP (fun j => nzB (lk i j)) n 0 := by rw [hrl i hi]
    refine Chk.mk hb ?_
    refine Brn.mk (fun h2 => ?_) (fun h2 => ?_)
    · have h2 : decide (g i ≤ ga) = true := h2
      refine Chk.mk hb ?_
      refine Brn.mk (fun h3 => ?_) (fun h3 => ?_)
      · have h3 : decide (lo ≤ am i) = true := h3
        refine AVle.tup2 (.bit ?_) .refl
        show (!anyP (fun j => nzB (lk i j)) (rl i) 0) = _
        rw [eA, covB, h2, h3]; rfl
      · have h3 : decide (lo ≤ am i) = false := h3
        refine AVle.tup2 (.bit ?_) .refl
        rw [covB, h2, h3]; rfl
    · have h2 : decide (g i ≤ ga) = false := h2
      refine AVle.tup2 (.bit ?_) .refl
      rw [covB, h2]; rfl
  · trivial
end
end Go.Proofs.Ytjmidgfkocmihaa.Img
