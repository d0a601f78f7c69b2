/- Chapter 37: lists, closures, the check of a filter. Conditions: none. -/
import Derived.Test.YtpndkmppncpkgaaPrf6
import Derived.Test.YtpndkmppncpkgaaAiMore
namespace Go.Proofs.Ytpndkmppncpkgaa.Img
open Go Go.Proofs.Ytpndkmppncpkgaa.AI Go.Proofs
noncomputable section
set_option maxRecDepth 100000
def sClone : Sp
  | [.sl s n f] => .new (IsI s n f ∧ n * 8 ≤ 140737488355328) ⟨3, 1, n, fun i _ => .int .i64 (vI f i), 1, false⟩
  | _ => .no
theorem ok54 : EntOK Try.prog TE 54 sClone := by
  refine ⟨callable_of Try.func54 (by kernel_rfl), fun args => ?_⟩
  unfold sClone
  split
  · rename_i s n f
    rintro ⟨hI, hb⟩
    refine FnNew.args (m := [.sl 1 n fun i _ => .int .i64 (vI f i)]) ?_ ⟨hI.le rfl, trivial⟩
    generalize vI f = x
    refine fn_newF tabsOK specOK_nil mixed Try.func54 (by kernel_rfl) rfl (fun _ _ _ _ => rfl) ?_
    intro b hb0
    refine Brn.mk (fun h => ?_) (fun h => ?_)
    · have : n = 0 := by
        rcases Nat.eq_zero_or_pos n with h0 | h0
        · exact h0
        · rw [hb0 h0] at h; cases h
      exact .inl ⟨rfl, (by decide : (1 : Nat) ≠ 0), this⟩
    · refine Chk.mk ⟨by omega, by omega⟩ ?_
      exact .inr ⟨7, 0 + n, _, rfl, rfl, rfl, rfl, Nat.zero_add n, rfl, rfl, fun _ => (by decide : (1 : Nat) ≠ 0), fun i j _ _ => rfl⟩
  · trivial
/-- Is a number beyond a bound? -/
def bey (m x : Int) : Bool := decide (x < wr (0 - m)) || decide (m < x)
def sBey : Sp
  | [.int .i64 x, .iref k g] => .pre (k = 1 ∧ g 0 = .int .i64 (asI (g 0))) (.bit (bey (asI (g 0)) x))
  | _ => .no
theorem ok53 : EntOK Try.prog TE 53 sBey := by
  refine ⟨callable_of Try.func53 (by kernel_rfl), fun args => ?_⟩
  unfold sBey
  split
  · rename_i x k g
    rintro ⟨rfl, hg⟩
    refine FnOK.args (m := [.int .i64 x, .iref 1 (nth [.int .i64 (asI (g 0))])]) ?_ ⟨fun _ _ _ h => h, .iref (by omega) fun j hj => .of_eq ?_, trivial⟩
    · generalize asI (g 0) = m
      refine fn_ofF tabsOK specOK_nil mixed Try.func53 (by kernel_rfl) ?_
      refine Brn.mk (fun h => AVle.bit ?_) (fun h => AVle.bit ?_)
      · show true = bey m x
        rw [bey, show decide (x < wr (0 - m)) = true from h]; rfl
      · rw [bey, show decide (x < wr (0 - m)) = false from h, Bool.false_or]
    · have : j = 0 := by omega
      subst this; exact hg
  · trivial
def sMkB : Sp
  | [.int .i64 m] => .ok (.clo 53 [] [.iref 1 (nth [.int .i64 m])])
  | _ => .no
theorem ok52 : EntOK Try.prog TE 52 sMkB := by
  refine ⟨callable_of Try.func52 (by kernel_rfl), fun args => ?_⟩
  unfold sMkB
  split
  · rename_i m
    refine fn_ofF tabsOK specOK_nil mixed Try.func52 (by kernel_rfl) ?_
    refine cloI_le (Nat.le_refl _) fun j hj => .of_eq ?_
    have : j = 0 := by omega
    subst this; rfl
  · trivial
def sMov : Sp
  | [.int .i64 x] => .ok (.bit (!decide (x = 0)))
  | _ => .no
theorem ok50 : EntOK Try.prog TE 50 sMov := by
  refine ⟨callable_of Try.func50 (by kernel_rfl), fun args => ?_⟩
  unfold sMov
  split
  · refine fn_ofF tabsOK specOK_nil mixed Try.func50 (by kernel_rfl) ?_
    exact AVle.bit rfl
  · trivial
structure IdxOK (F k : Nat) (g : Nat → AV) (s n : Nat) (f : Nat → Nat → AV) : Prop where
  F : F = 53
  k : k = 1
  g : g 0 = .int .i64 (asI (g 0))
  f : IsI s n f
  n : n ≤ 4611686018427387904
structure Idx0 (F s n : Nat) (f : Nat → Nat → AV) : Prop where
  F : F = 50
  f : IsI s n f
  n : n ≤ 4611686018427387904
def sIdx : Sp
  | [.sl s n f, .clo F [] [.iref k g]] => .pre (IdxOK F k g s n f) (.int .i64 (idxF (fun i => bey (asI (g 0)) (vI f i)) n 0))
  | [.sl s n f, .clo F [] []] => .pre (Idx0 F s n f) (.int .i64 (idxF (fun i => !decide (vI f i = 0)) n 0))
  | _ => .no
theorem ok55 : EntOK Try.prog TE 55 sIdx := by
  refine ⟨callable_of Try.func55 (by kernel_rfl), fun args => ?_⟩
  unfold sIdx
  split
  · rename_i s n f F k g
    rintro ⟨rfl, rfl, hg, hf, hn⟩
    refine FnOK.args (m := [.sl 1 n fun i _ => .int .i64 (vI f i), .clo 53 [] [.iref 1 (nth [.int .i64 (asI (g 0))])]]) ?_ ⟨hf.le rfl, cloI_le2 (Nat.le_refl _) fun j hj => .of_eq ?_, trivial⟩
    · generalize vI f = x
      generalize asI (g 0) = b
      refine fn_ofF tabsOK (specOK_cons ok53 specOK_nil) mixed Try.func55 (by kernel_rfl) ?_
      refine LoopOK.mk ⟨{ i : Nat // i ≤ n ∧ idxF (fun i => bey b (x i)) (n - i) i = idxF (fun i => bey b (x i)) n 0 }, fun i => mkSt [(0, .sl 1 n fun i _ => .int .i64 (x i)), (1, .clo 53 [] [.iref 1 (nth [.int .i64 b])]), (7, .int .i64 n), (8, .int .i64 i.1)]
        [], fun i => n - i.1, ⟨⟨0, by omega, rfl⟩, ?_⟩, ?_⟩
      · exact wk_of [] rfl ⟨⟨rfl, rfl⟩, ⟨rfl, rfl⟩, ⟨rfl, rfl⟩, ⟨rfl, rfl⟩, trivial⟩ trivial
      rintro ⟨i, hi, he⟩
      refine Brn.mk (fun h => ?_) (fun h => ?_)
      · have h : (i : Int) < n := of_decide_eq_true h
        refine Chk.mk ⟨Int.natCast_nonneg i, h⟩ (Chk.mk ⟨rfl, rfl⟩ ?_)
        refine Brn.mk (fun h2 => AVle.int ((idxF_hit (p := fun i => bey b (x i)) (i := i) (by omega) h2).symm.trans he)) (fun h2 => ?_)
        · refine ⟨⟨i + 1, by omega, (idxF_miss (p := fun i => bey b (x i)) (i := i) (by omega) h2).symm.trans he⟩, by show n - (i + 1) < n - i; omega, ?_⟩
          exact wk_of [] rfl ⟨⟨rfl, rfl⟩, ⟨rfl, rfl⟩, ⟨rfl, rfl⟩, ⟨wrS (i := i) (by omega), rfl⟩, trivial⟩ trivial
      · have h : ¬ (i : Int) < n := of_decide_eq_false h
        have : i = n := by omega
        subst this
        rw [Nat.sub_self] at he
        exact AVle.int he
    · have : j = 0 := by omega
      subst this; exact hg
  · rename_i s n f F
    rintro ⟨rfl, hf, hn⟩
    refine FnOK.args (m := [.sl 1 n fun i _ => .int .i64 (vI f i), .clo 50 [] []]) ?_ ⟨hf.le rfl, fun _ _ _ h => h, trivial⟩
    generalize vI f = x
    refine fn_ofF tabsOK (specOK_cons ok50 specOK_nil) mixed Try.func55 (by kernel_rfl) ?_
    refine LoopOK.mk ⟨{ i : Nat // i ≤ n ∧ idxF (fun i => !decide (x i = 0)) (n - i) i = idxF (fun i => !decide (x i = 0)) n 0 }, fun i => mkSt [(0, .sl 1 n fun i _ => .int .i64 (x i)), (1, .clo 50 [] []), (7, .int .i64 n), (8, .int .i64 i.1)]
      [], fun i => n - i.1, ⟨⟨0, by omega, rfl⟩, ?_⟩, ?_⟩
    · exact wk_of [] rfl ⟨⟨rfl, rfl⟩, ⟨rfl, rfl⟩, ⟨rfl, rfl⟩, ⟨rfl, rfl⟩, trivial⟩ trivial
    rintro ⟨i, hi, he⟩
    refine Brn.mk (fun h => ?_) (fun h => ?_)
    · have h : (i : Int) < n := of_decide_eq_true h
      refine Chk.mk ⟨by omega, h⟩ ?_
      refine Brn.mk (fun h2 => AVle.int ((idxF_hit (p := fun i => !decide (x i = 0)) (i := i) (by omega) h2).symm.trans he)) (fun h2 => ?_)
      · refine ⟨⟨i + 1, by omega, (idxF_miss (p := fun i => !decide (x i = 0)) (i := i) (by omega) h2).symm.trans he⟩, by show n - (i + 1) < n - i; omega, ?_⟩
        exact wk_of [] rfl ⟨⟨rfl, rfl⟩, ⟨rfl, rfl⟩, ⟨rfl, rfl⟩, ⟨wrS (i := i) (by omega), rfl⟩, trivial⟩ trivial
    · have h : ¬ (i : Int) < n := of_decide_eq_false h
      have : i = n := by omega
      subst this
      rw [Nat.sub_self] at he
      exact AVle.int he
  · trivial
def sCon : Sp
  | [.sl s n f, .clo F [] [.iref k g]] => .pre (IdxOK F k g s n f) (.bit (anyP (fun i => bey (asI (g 0)) (vI f i)) n 0))
  | [.sl s n f, .clo F [] []] => .pre (Idx0 F s n f) (.bit (anyP (fun i => !decide (vI f i = 0)) n 0))
  | _ => .no
theorem ok51 : EntOK Try.prog TE 51 sCon := by
  refine ⟨callable_of Try.func51 (by kernel_rfl), fun args => ?_⟩
  unfold sCon
  split
  · intro H
    refine fn_ofF tabsOK (specOK_cons ok55 specOK_nil) mixed Try.func51 (by kernel_rfl) ?_
    exact Chk.mk H (AVle.bit (idxF_any _ _ _))
  · intro H
    refine fn_ofF tabsOK (specOK_cons ok55 specOK_nil) mixed Try.func51 (by kernel_rfl) ?_
    exact Chk.mk H (AVle.bit (idxF_any _ _ _))
  · trivial
end
end Go.Proofs.Ytpndkmppncpkgaa.Img
