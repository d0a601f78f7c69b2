/- Chapter 24: the contracts of the gates' small functions. Conditions: none. -/
import Derived.Test.YtbhbjmneglkgnaaTop4
namespace Go.Proofs.Ytbhbjmneglkgnaa.Img
open Go Go.Proofs.Ytbhbjmneglkgnaa.AI Go.Proofs
noncomputable section
set_option maxRecDepth 100000
def sPer : Sp
  | [.int .i64 p] => .pre (p = 100) (.bit true)
  | _ => .no
theorem ok48 : EntOK Try.prog TE 48 sPer := by
  refine ⟨callable_of Try.func48 (by kernel_rfl), fun args => ?_⟩
  unfold sPer
  split
  · rintro rfl
    refine fn_ofF tabsOK (specOK_cons ok40 specOK_nil) mixed Try.func48 (by kernel_rfl) ?_
    exact AVle.bit (by decide)
  · trivial
structure FreshL (a b c d e f : Int) : Prop where
  a : a = 0
  b : b = 4096
  c : c = 0
  d : d = 4096
  e : e = 0
  f : f = 4096
/-- The numbers from 0 to 3. -/
inductive K4 where
  | k0
  | k1
  | k2
  | k3
def K4.n : K4 → Nat
  | .k0 => 0
  | .k1 => 1
  | .k2 => 2
  | .k3 => 3
def frL : List AV := [.int .i64 0, .int .i64 4096, .int .i64 0, .int .i64 4096, .int .i64 0, .int .i64 4096]
def sRng : Sp
  | [.agg [.int .i64 a, .int .i64 b, .int .i64 c, .int .i64 d, .int .i64 e, .int .i64 f], .int .i64 p, .int .i64 q] => .pre (FreshL a b c d e f ∧ p = 100 ∧ q = 3) (.bit true)
  | _ => .no
def rngSt : K4 → St
  | .k0 => mkSt [(1, .int .i64 100), (2, .int .i64 3), (9, .agg frL), (10, .int .i64 0)] []
  | .k1 => mkSt [(1, .int .i64 100), (2, .int .i64 3), (9, .agg frL), (10, .int .i64 1)] []
  | .k2 => mkSt [(1, .int .i64 100), (2, .int .i64 3), (9, .agg frL), (10, .int .i64 2)] []
  | .k3 => mkSt [(1, .int .i64 100), (2, .int .i64 3), (9, .agg frL), (10, .int .i64 3)] []
theorem ok39 : EntOK Try.prog TE 39 sRng := by
  refine ⟨callable_of Try.func39 (by kernel_rfl), fun args => ?_⟩
  unfold sRng
  split
  · rintro ⟨⟨rfl, rfl, rfl, rfl, rfl, rfl⟩, rfl, rfl⟩
    refine fn_ofF tabsOK (specOK_cons ok40 (specOK_cons ok48 specOK_nil)) mixed Try.func39 (by kernel_rfl) ?_
    refine LoopOK.mk ⟨K4, rngSt, fun k => 3 - k.n, ⟨.k0, ?_⟩, ?_⟩
    · exact wk_of [] rfl ⟨⟨rfl, rfl⟩, ⟨rfl, rfl⟩, ⟨rfl, rfl⟩, ⟨rfl, rfl⟩, trivial⟩ trivial
    rintro (_ | _ | _ | _)
    · refine Brn.mk (fun _ => ?_) (fun q => absurd q (by decide +kernel))
      refine Chk.mk (by decide) ?_
      repeat refine Brn.mk (fun q => absurd q (by decide +kernel)) (fun _ => ?_)
      exact ⟨.k1, by decide, wk_of [] rfl ⟨⟨rfl, rfl⟩, ⟨rfl, rfl⟩, ⟨rfl, rfl⟩, ⟨rfl, rfl⟩, trivial⟩ trivial⟩
    · refine Brn.mk (fun _ => ?_) (fun q => absurd q (by decide +kernel))
      refine Chk.mk (by decide) ?_
      repeat refine Brn.mk (fun q => absurd q (by decide +kernel)) (fun _ => ?_)
      exact ⟨.k2, by decide, wk_of [] rfl ⟨⟨rfl, rfl⟩, ⟨rfl, rfl⟩, ⟨rfl, rfl⟩, ⟨rfl, rfl⟩, trivial⟩ trivial⟩
    · refine Brn.mk (fun _ => ?_) (fun q => absurd q (by decide +kernel))
      refine Chk.mk (by decide) ?_
      repeat refine Brn.mk (fun q => absurd q (by decide +kernel)) (fun _ => ?_)
      exact ⟨.k3, by decide, wk_of [] rfl ⟨⟨rfl, rfl⟩, ⟨rfl, rfl⟩, ⟨rfl, rfl⟩, ⟨rfl, rfl⟩, trivial⟩ trivial⟩
    · refine Brn.mk (fun q => absurd q (by decide +kernel)) (fun _ => ?_)
      refine Chk.mk rfl ?_
      refine Brn.mk (fun _ => ?_) (fun q => absurd q (by decide +kernel))
      exact AVle.bit (by decide)
  · trivial
def bad6 : List AV := [.bad, .bad, .bad, .bad, .bad, .bad]
def sOn : Sp
  | [.agg [.int .i64 a, .int .i64 b, .int .i64 c, .int .i64 d, .int .i64 e, .int .i64 f]] => .ok (.agg bad6)
  | _ => .no
def onSt (l : List AV) : K4 → St
  | .k0 => mkSt [(2, .loc 2 0), (3, .loc 3 0), (6, .agg l), (7, .int .i64 0)] [(2, ⟨56, 6, 1, fun _ j => nth [.bit false, .bit false, .bit false, .bit false, .bit false, .bit false] j, 0, true⟩), (3, ⟨56, 6, 1, fun _ _ => .bad, 0, true⟩)]
  | .k1 => mkSt [(2, .loc 2 0), (3, .loc 3 0), (6, .agg l), (7, .int .i64 1)] [(2, ⟨56, 6, 1, fun _ j => nth [.bit false, .bit false, .bit false, .bit false, .bit false, .bit false] j, 0, true⟩), (3, ⟨56, 6, 1, fun _ _ => .bad, 0, true⟩)]
  | .k2 => mkSt [(2, .loc 2 0), (3, .loc 3 0), (6, .agg l), (7, .int .i64 2)] [(2, ⟨56, 6, 1, fun _ j => nth [.bit false, .bit false, .bit false, .bit false, .bit false, .bit false] j, 0, true⟩), (3, ⟨56, 6, 1, fun _ _ => .bad, 0, true⟩)]
  | .k3 => mkSt [(2, .loc 2 0), (3, .loc 3 0), (6, .agg l), (7, .int .i64 3)] [(2, ⟨56, 6, 1, fun _ j => nth [.bit false, .bit false, .bit false, .bit false, .bit false, .bit false] j, 0, true⟩), (3, ⟨56, 6, 1, fun _ _ => .bad, 0, true⟩)]
theorem ok41b : EntOK Try.prog TE 41 sOn := by
  refine ⟨callable_of Try.func41 (by kernel_rfl), fun args => ?_⟩
  unfold sOn
  split
  · rename_i a b c d e f
    refine fn_ofF tabsOK specOK_nil mixed Try.func41 (by kernel_rfl) ?_
    refine LoopOK.mk ⟨K4, onSt [.int .i64 a, .int .i64 b, .int .i64 c, .int .i64 d, .int .i64 e, .int .i64 f], fun k => 3 - k.n, ⟨.k0, ?_⟩, ?_⟩
    · refine wk_of [(2, some 2), (3, some 3)] rfl ⟨rfl, rfl, ⟨rfl, rfl⟩, ⟨rfl, rfl⟩, trivial⟩ ⟨RowLe.fin rfl rfl rfl rfl rfl ?_, RowLe.fin rfl rfl rfl rfl rfl ?_, trivial⟩
      all_goals (repeat' first | exact trivial | exact ⟨by kernel_rfl, by kernel_rfl⟩ | exact Or.inr (by kernel_rfl) | (show _ = _; kernel_rfl) | refine ⟨?_, ?_⟩)
    have i0 : (0 : Int) ≤ 0 ∧ (0 : Int) < 3 := by decide
    have i1 : (0 : Int) ≤ 1 ∧ (1 : Int) < 3 := by decide
    have i2 : (0 : Int) ≤ 2 ∧ (2 : Int) < 3 := by decide
    rintro (_ | _ | _ | _)
    · refine Brn.mk (fun _ => ?_) (fun q => absurd q (by decide +kernel))
      refine Chk.mk i0 ?_
      refine Chk.mk (by decide) (Chk.mk (by decide) (Chk.mk (by kernel_rfl) ?_))
      refine ⟨.k1, by decide, ?_⟩
      refine wk_of [(2, some 2), (3, some 3)] rfl ⟨rfl, rfl, ⟨rfl, rfl⟩, ⟨rfl, rfl⟩, trivial⟩ ⟨RowLe.fin rfl rfl rfl rfl rfl ?_, RowLe.fin rfl rfl rfl rfl rfl ?_, trivial⟩
      all_goals (repeat' first | exact trivial | exact ⟨by kernel_rfl, by kernel_rfl⟩ | exact Or.inr (by kernel_rfl) | (show _ = _; kernel_rfl) | refine ⟨?_, ?_⟩)
    · refine Brn.mk (fun _ => ?_) (fun q => absurd q (by decide +kernel))
      refine Chk.mk i1 ?_
      refine Chk.mk (by decide) (Chk.mk (by decide) (Chk.mk (by kernel_rfl) ?_))
      refine ⟨.k2, by decide, ?_⟩
      refine wk_of [(2, some 2), (3, some 3)] rfl ⟨rfl, rfl, ⟨rfl, rfl⟩, ⟨rfl, rfl⟩, trivial⟩ ⟨RowLe.fin rfl rfl rfl rfl rfl ?_, RowLe.fin rfl rfl rfl rfl rfl ?_, trivial⟩
      all_goals (repeat' first | exact trivial | exact ⟨by kernel_rfl, by kernel_rfl⟩ | exact Or.inr (by kernel_rfl) | (show _ = _; kernel_rfl) | refine ⟨?_, ?_⟩)
    · refine Brn.mk (fun _ => ?_) (fun q => absurd q (by decide +kernel))
      refine Chk.mk i2 ?_
      refine Chk.mk (by decide) (Chk.mk (by decide) (Chk.mk (by kernel_rfl) ?_))
      refine ⟨.k3, by decide, ?_⟩
      refine wk_of [(2, some 2), (3, some 3)] rfl ⟨rfl, rfl, ⟨rfl, rfl⟩, ⟨rfl, rfl⟩, trivial⟩ ⟨RowLe.fin rfl rfl rfl rfl rfl ?_, RowLe.fin rfl rfl rfl rfl rfl ?_, trivial⟩
      all_goals (repeat' first | exact trivial | exact ⟨by kernel_rfl, by kernel_rfl⟩ | exact Or.inr (by kernel_rfl) | (show _ = _; kernel_rfl) | refine ⟨?_, ?_⟩)
    · refine Brn.mk (fun q => absurd q (by decide +kernel)) (fun _ => ?_)
      exact AVle.agg rfl
  · trivial
def wnt (a b t r : Int) : Int := if r ≤ t then 0 else if a ≤ t ∧ t < b then 2 else 1
def sWnt : Sp
  | [.agg [.int .i64 a, .int .i64 b], .int .i64 t, .int .i64 r] => .ok (.int .i64 (wnt a b t r))
  | _ => .no
theorem ok42 : EntOK Try.prog TE 42 sWnt := by
  refine ⟨callable_of Try.func42 (by kernel_rfl), fun args => ?_⟩
  unfold sWnt
  split
  · refine fn_ofF tabsOK specOK_nil mixed Try.func42 (by kernel_rfl) ?_
    refine Brn.mk (fun h => AVle.int ?_) (fun h1 => ?_)
    · rw [wnt, if_pos (of_decide_eq_true h)]
    refine Brn.mk (fun h2 => ?_) (fun h2 => ?_)
    · refine Brn.mk (fun h3 => AVle.int ?_) (fun h3 => AVle.int ?_)
      · rw [wnt, if_neg (of_decide_eq_false h1), if_pos ⟨of_decide_eq_true h2, of_decide_eq_true h3⟩]
      · rw [wnt, if_neg (of_decide_eq_false h1), if_neg (fun q => of_decide_eq_false h3 q.2)]
    · refine AVle.int ?_
      rw [wnt, if_neg (of_decide_eq_false h1), if_neg (fun q => of_decide_eq_false h2 q.1)]
  · trivial
def nbr (i s : Int) : Int := if s = 2 then wr (2 * i) else wr (wr (2 * i) + 1)
def sNbr : Sp
  | [.int .i64 i, .int .i64 s] => .ok (.int .i64 (nbr i s))
  | _ => .no
theorem ok43 : EntOK Try.prog TE 43 sNbr := by
  refine ⟨callable_of Try.func43 (by kernel_rfl), fun args => ?_⟩
  unfold sNbr
  split
  · refine fn_ofF tabsOK specOK_nil mixed Try.func43 (by kernel_rfl) ?_
    refine Brn.mk (fun h => AVle.int ?_) (fun h => AVle.int ?_)
    · rw [nbr, if_pos (of_decide_eq_true h)]
    · rw [nbr, if_neg (of_decide_eq_false h)]
  · trivial
def sFresh : Sp
  | [] => .ok (.agg frL)
  | _ => .no
theorem ok16 : EntOK Try.prog TE 16 sFresh := by
  refine ⟨callable_of Try.func16 (by kernel_rfl), fun args => ?_⟩
  unfold sFresh
  split
  · refine fn_ofF tabsOK specOK_nil mixed Try.func16 (by kernel_rfl) ?_
    exact AVle.agg rfl
  · trivial
/-- No edges: none of them is on. -/
structure NoE (s n : Nat) : Prop where
  s : s = 3
  n : n = 0
def sIdxE : Sp
  | [.sl s n _, .clo _ [] []] => .pre (NoE s n) (.int .i64 (-1))
  | [.nilS, .clo _ [] []] => .ok (.int .i64 (-1))
  | _ => .no
theorem ok44 : EntOK Try.prog TE 44 sIdxE := by
  refine ⟨callable_of Try.func44 (by kernel_rfl), fun args => ?_⟩
  unfold sIdxE
  split
  · rename_i s n f fid
    rintro ⟨rfl, rfl⟩
    refine fn_ofF tabsOK specOK_nil mixed Try.func44 (by kernel_rfl) ?_
    refine LoopOK.mk ⟨Unit, fun _ => mkSt [(7, .int .i64 0), (8, .int .i64 0)] [], fun _ => 0, ⟨(), ?_⟩, ?_⟩
    · exact wk_of [] rfl ⟨⟨rfl, rfl⟩, ⟨rfl, rfl⟩, trivial⟩ trivial
    rintro ⟨⟩
    refine Brn.mk (fun q => absurd q (by decide +kernel)) (fun _ => ?_)
    exact AVle.int rfl
  · refine fn_ofF tabsOK specOK_nil mixed Try.func44 (by kernel_rfl) ?_
    refine LoopOK.mk ⟨Unit, fun _ => mkSt [(7, .int .i64 0), (8, .int .i64 0)] [], fun _ => 0, ⟨(), ?_⟩, ?_⟩
    · exact wk_of [] rfl ⟨⟨rfl, rfl⟩, ⟨rfl, rfl⟩, trivial⟩ trivial
    rintro ⟨⟩
    refine Brn.mk (fun q => absurd q (by decide +kernel)) (fun _ => ?_)
    exact AVle.int rfl
  · trivial
def sConE : Sp
  | [.sl s n _, .clo _ [] []] => .pre (NoE s n) (.bit false)
  | [.nilS, .clo _ [] []] => .ok (.bit false)
  | _ => .no
theorem ok31b : EntOK Try.prog TE 31 sConE := by
  refine ⟨callable_of Try.func31 (by kernel_rfl), fun args => ?_⟩
  unfold sConE
  split
  · intro h
    refine fn_ofF tabsOK (specOK_cons ok44 specOK_nil) mixed Try.func31 (by kernel_rfl) ?_
    refine Chk.mk h ?_
    exact AVle.bit (by decide)
  · refine fn_ofF tabsOK (specOK_cons ok44 specOK_nil) mixed Try.func31 (by kernel_rfl) ?_
    exact AVle.bit (by decide)
  · trivial
def sAll : Sp
  | [.agg [.int .i64 _, .bit a, .bit b, .bit c, .bit d, .bit e, .bit f, .nilS]] => .pre (a = false ∧ b = false ∧ c = false ∧ d = false ∧ e = false ∧ f = false) (.bit true)
  | _ => .no
theorem ok17 : EntOK Try.prog TE 17 sAll := by
  refine ⟨callable_of Try.func17 (by kernel_rfl), fun args => ?_⟩
  unfold sAll
  split
  · rintro ⟨rfl, rfl, rfl, rfl, rfl, rfl⟩
    refine fn_ofF tabsOK (specOK_cons ok31b specOK_nil) mixed Try.func17 (by kernel_rfl) ?_
    refine Brn.mk (fun _ => ?_) (fun q => absurd q (by decide +kernel))
    exact AVle.bit rfl
  · trivial
end
end Go.Proofs.Ytbhbjmneglkgnaa.Img
