/- The fixed fact that the laws begin with. Conditions: none. -/
import Derived.Test.YtbhbjmneglkgnaaTop1
import Derived.Test.YtbhbjmneglkgnaaAiMore
import Derived.Test.YtbhbjmneglkgnaaAiMore2
namespace Go.Proofs.Ytbhbjmneglkgnaa.Img
open Go Go.Proofs.Ytbhbjmneglkgnaa.AI Go.Proofs
noncomputable section
set_option maxRecDepth 100000
/-- One task: period 4, cost 1, deadline 4. -/
def oneT : Nat → Nat → AV := fun _ j => nth [.int .i64 4, .int .i64 0, .int .i64 1, .int .i64 4, .int .i64 0] j
structure OneT (s n : Nat) (f : Nat → Nat → AV) : Prop where
  s : s = 5
  n : n = 1
  f : AllLt 5 fun j => f 0 j = oneT 0 j
theorem OneT.le {s n : Nat} {f : Nat → Nat → AV} (h : OneT s n f) : AVle2 TE (.sl s n f) (.sl 5 1 oneT) := by
  obtain ⟨rfl, rfl, hf⟩ := h
  refine le2_sl (.sl rfl fun i j hi hj => ?_)
  have : i = 0 := by omega
  subst this
  exact .of_eq (allLt hf j hj)
theorem oneT_ok : OneT 5 1 oneT := ⟨rfl, rfl, ⟨⟨⟨⟨⟨trivial, rfl⟩, rfl⟩, rfl⟩, rfl⟩, rfl⟩⟩
def sTC : Sp
  | [.sl s n f] => .pre (OneT s n f) (.err 0)
  | _ => .no
theorem ok20 : EntOK Try.prog TE 20 sTC := by
  refine ⟨callable_of Try.func20 (by kernel_rfl), fun args => ?_⟩
  unfold sTC
  split
  · rename_i s n f
    intro h
    refine FnOK.args (m := [.sl 5 1 oneT]) ?_ ⟨h.le, trivial⟩
    refine fn_ofF tabsOK specOK_nil mixed Try.func20 (by kernel_rfl) ?_
    refine Brn.mk (fun h => absurd h (by decide +kernel)) (fun _ => ?_)
    refine LoopOK.mk ⟨{ i : Nat // i ≤ 1 }, fun i => mkSt [(0, .sl 5 1 oneT), (11, .sl 5 1 oneT), (12, .int .i64 1), (13, .int .i64 i.1)]
      [], fun i => 1 - i.1, ⟨⟨0, by omega⟩, ?_⟩, ?_⟩
    · exact wk_of [] rfl ⟨⟨rfl, rfl⟩, ⟨rfl, rfl⟩, ⟨rfl, rfl⟩, ⟨rfl, rfl⟩, trivial⟩ trivial
    rintro ⟨i, hi⟩
    refine Brn.mk (fun h => ?_) (fun h => ?_)
    · have h : (i : Int) < 1 := of_decide_eq_true h
      have : i = 0 := by omega
      subst this
      refine Chk.mk ⟨Int.le_refl 0, (show (0 : Int) < 1 by decide)⟩ ?_
      repeat refine Brn.mk (fun h => absurd h (by decide +kernel)) (fun _ => ?_)
      refine Chk.mk ⟨Int.le_refl 0, (show (0 : Int) ≤ 1 by decide)⟩ ?_
      refine LoopOK.mk ⟨Unit, fun _ => mkSt [(0, .sl 5 1 oneT), (4, .loc 4 0), (11, .sl 5 1 oneT), (12, .int .i64 1), (13, .int .i64 0), (60, .sl 5 0 oneT), (61, .int .i64 0), (62, .int .i64 0)]
        [(4, ⟨33, 5, 1, oneT, 0, true⟩)], fun _ => 0, ⟨(), ?_⟩, ?_⟩
      · refine wk_of [(4, some 4)] rfl ⟨⟨rfl, rfl⟩, rfl, ⟨rfl, rfl⟩, ⟨rfl, rfl⟩, ⟨rfl, rfl⟩, ⟨rfl, rfl⟩, ⟨rfl, rfl⟩, ⟨rfl, rfl⟩, trivial⟩ ⟨RowLe.fin rfl rfl rfl rfl rfl ?_, trivial⟩
        (repeat' first | exact trivial | exact ⟨by kernel_rfl, by kernel_rfl⟩ | exact Or.inr (by kernel_rfl) | (show _ = _; kernel_rfl) | refine ⟨?_, ?_⟩)
      rintro ⟨⟩
      refine Brn.mk (fun h => absurd h (by decide +kernel)) (fun _ => ?_)
      refine ⟨⟨1, by omega⟩, by show 1 - 1 < 1 - 0; omega, ?_⟩
      exact wk_of [] rfl ⟨⟨rfl, rfl⟩, ⟨rfl, rfl⟩, ⟨rfl, rfl⟩, ⟨rfl, rfl⟩, trivial⟩ trivial
    · refine AVle.nilErr rfl
  · trivial
def sTimes : Sp
  | [.agg [.int .i64 p, .int .i64 _, .int .i64 _, .int .i64 _, .int .i64 _], .int .i64 r] => .pre (p ≠ 0) (.int .i64 (wr ((wr (wr (r + p) - 1)).tdiv p)))
  | _ => .no
theorem ok37b : EntOK Try.prog TE 37 sTimes := by
  refine ⟨callable_of Try.func37 (by kernel_rfl), fun args => ?_⟩
  unfold sTimes
  split
  · intro h
    refine fn_ofF tabsOK specOK_nil mixed Try.func37 (by kernel_rfl) ?_
    refine Chk.mk h ?_
    exact AVle.int rfl
  · trivial
def sWor : Sp
  | [.sl s n f, .int .i64 i] => .pre (OneT s n f ∧ i = 0) (.int .i64 1)
  | _ => .no
theorem ok22 : EntOK Try.prog TE 22 sWor := by
  refine ⟨callable_of Try.func22 (by kernel_rfl), fun args => ?_⟩
  unfold sWor
  split
  · rename_i s n f i
    rintro ⟨h, rfl⟩
    refine FnOK.args (m := [.sl 5 1 oneT, .int .i64 0]) ?_ ⟨h.le, .refl, trivial⟩
    refine fn_ofF tabsOK (specOK_cons ok37b specOK_nil) mixed Try.func22 (by kernel_rfl) ?_
    refine Chk.mk (by decide) ?_
    refine LoopOK.mk ⟨Unit, fun _ => mkSt [(0, .sl 5 1 oneT), (1, .int .i64 0), (5, .int .i64 1)]
      [], fun _ => 0, ⟨(), ?_⟩, ?_⟩
    · exact wk_of [] rfl ⟨⟨rfl, rfl⟩, ⟨rfl, rfl⟩, ⟨rfl, rfl⟩, trivial⟩ trivial
    rintro ⟨⟩
    refine Chk.mk (by decide) ?_
    refine LoopOK.mk ⟨{ i : Nat // i ≤ 1 }, fun i => mkSt [(0, .sl 5 1 oneT), (1, .int .i64 0), (5, .int .i64 1), (6, .int .i64 1), (19, .sl 5 1 oneT), (20, .int .i64 1), (21, .int .i64 i.1)]
      [], fun i => 1 - i.1, ⟨⟨0, by omega⟩, ?_⟩, ?_⟩
    · exact wk_of [] rfl ⟨⟨rfl, rfl⟩, ⟨rfl, rfl⟩, ⟨rfl, rfl⟩, ⟨rfl, rfl⟩, ⟨rfl, rfl⟩, ⟨rfl, rfl⟩, ⟨rfl, rfl⟩, trivial⟩ trivial
    rintro ⟨i, hi⟩
    refine Brn.mk (fun h => ?_) (fun _ => ?_)
    · have h : (i : Int) < 1 := of_decide_eq_true h
      have : i = 0 := by omega
      subst this
      refine Chk.mk ⟨Int.le_refl 0, (show (0 : Int) < 1 by decide)⟩ ?_
      refine Chk.mk ⟨Int.le_refl 0, (show (0 : Int) < 1 by decide)⟩ ?_
      refine Brn.mk (fun h => absurd h (by decide +kernel)) (fun _ => ?_)
      refine ⟨⟨1, by omega⟩, by show 1 - 1 < 1 - 0; omega, ?_⟩
      exact wk_of [] rfl ⟨⟨rfl, rfl⟩, ⟨rfl, rfl⟩, ⟨rfl, rfl⟩, ⟨rfl, rfl⟩, ⟨rfl, rfl⟩, ⟨rfl, rfl⟩, ⟨rfl, rfl⟩, trivial⟩ trivial
    · refine Chk.mk (by decide) ?_
      refine Brn.mk (fun h => absurd h (by decide +kernel)) (fun _ => ?_)
      refine Brn.mk (fun _ => ?_) (fun h => absurd h (by decide +kernel))
      exact AVle.int rfl
  · trivial
def sWorst : Sp
  | [.sl s n f] => .pre (OneT s n f) (.tup [.sl 1 1 (fun _ _ => .int .i64 1), .err 0])
  | _ => .no
theorem ok8 : EntOK Try.prog TE 8 sWorst := by
  refine ⟨callable_of Try.func8 (by kernel_rfl), fun args => ?_⟩
  unfold sWorst
  split
  · rename_i s n f
    intro h
    refine FnOK.args (m := [.sl 5 1 oneT]) ?_ ⟨h.le, trivial⟩
    refine fn_ofF tabsOK (specOK_cons ok20 (specOK_cons ok22 specOK_nil)) mixed Try.func8 (by kernel_rfl) ?_
    refine Chk.mk oneT_ok ?_
    refine Brn.mk (fun h => absurd h (by decide +kernel)) (fun _ => ?_)
    refine LoopOK.mk ⟨{ i : Nat // i ≤ 1 }, fun i => mkSt [(0, .sl 5 1 oneT), (5, .own 5 i.1), (13, .int .i64 1), (14, .int .i64 i.1)]
      [(5, ⟨3, 1, i.1, fun _ _ => .int .i64 1, 1, false⟩)], fun i => 1 - i.1, ⟨⟨0, by omega⟩, ?_⟩, ?_⟩
    · exact wk_of [(5, none)] rfl ⟨⟨rfl, rfl⟩, ⟨rfl, rfl⟩, ⟨rfl, rfl⟩, ⟨rfl, rfl⟩, trivial⟩ ⟨⟨rfl, rfl, rfl⟩, trivial⟩
    rintro ⟨i, hi⟩
    refine Brn.mk (fun h => ?_) (fun h => ?_)
    · have h : (i : Int) < 1 := of_decide_eq_true h
      have : i = 0 := by omega
      subst this
      refine Chk.mk ⟨oneT_ok, rfl⟩ ?_
      refine Chk.mk ⟨(show (0 + 1) * 8 ≤ 140737488355328 by decide), (show 0 + 1 ≤ 9223372036854775807 by decide)⟩ ?_
      refine ⟨⟨1, by omega⟩, by show 1 - 1 < 1 - 0; omega, ?_⟩
      refine wk_of [(5, some 22)] rfl ⟨⟨rfl, rfl⟩, rfl, ⟨rfl, rfl⟩, ⟨rfl, rfl⟩, trivial⟩ ⟨RowLe.fin rfl rfl rfl rfl rfl ?_, trivial⟩
      (repeat' first | exact trivial | exact ⟨by kernel_rfl, by kernel_rfl⟩ | exact Or.inr (by kernel_rfl) | (show _ = _; kernel_rfl) | refine ⟨?_, ?_⟩)
    · have h : ¬ (i : Int) < 1 := of_decide_eq_false h
      have : i = 1 := by omega
      subst this
      exact AVle.tup2 (le2_sl .refl) (.nilErr rfl)
  · trivial
structure TwoI (s n : Nat) (f : Nat → Nat → AV) (s' m : Nat) (g : Nat → Nat → AV) : Prop where
  h1 : IsI s n f
  h2 : IsI s' m g
  h3 : n = 1
  h4 : m = 1
  h5 : vI f 0 = vI g 0
def sInts : Sp
  | [.sl s n f, .sl s' m g] => .pre (TwoI s n f s' m g) (.bit true)
  | _ => .no
theorem ok19 : EntOK Try.prog TE 19 sInts := by
  refine ⟨callable_of Try.func19 (by kernel_rfl), fun args => ?_⟩
  unfold sInts
  split
  · rename_i s n f s' m g
    rintro ⟨hf, hg, rfl, rfl, he⟩
    refine FnOK.args (m := [.sl 1 1 fun i _ => .int .i64 (vI f i), .sl 1 1 fun i _ => .int .i64 (vI g i)]) ?_ ⟨hf.le rfl, hg.le rfl, trivial⟩
    generalize vI f = x at *
    generalize vI g = y at *
    refine fn_ofF tabsOK specOK_nil mixed Try.func19 (by kernel_rfl) ?_
    refine Brn.mk (fun h => absurd h (by decide +kernel)) (fun _ => ?_)
    refine LoopOK.mk ⟨{ i : Nat // i ≤ 1 }, fun i => mkSt [(0, .sl 1 1 fun i _ => .int .i64 (x i)), (1, .sl 1 1 fun i _ => .int .i64 (y i)), (12, .int .i64 1), (13, .int .i64 i.1)]
      [], fun i => 1 - i.1, ⟨⟨0, by omega⟩, ?_⟩, ?_⟩
    · exact wk_of [] rfl ⟨⟨rfl, rfl⟩, ⟨rfl, rfl⟩, ⟨rfl, rfl⟩, ⟨rfl, rfl⟩, trivial⟩ trivial
    rintro ⟨i, hi⟩
    refine Brn.mk (fun h => ?_) (fun h => AVle.bit rfl)
    have h : (i : Int) < 1 := of_decide_eq_true h
    have : i = 0 := by omega
    subst this
    refine Chk.mk ⟨Int.le_refl 0, (show (0 : Int) < 1 by decide)⟩ ?_
    refine Chk.mk ⟨Int.le_refl 0, (show (0 : Int) < 1 by decide)⟩ ?_
    refine Brn.mk (fun q => absurd he (ndT q)) (fun _ => ?_)
    refine ⟨⟨1, by omega⟩, by show 1 - 1 < 1 - 0; omega, ?_⟩
    exact wk_of [] rfl ⟨⟨rfl, rfl⟩, ⟨rfl, rfl⟩, ⟨rfl, rfl⟩, ⟨rfl, rfl⟩, trivial⟩ trivial
  · trivial
def sGuard : Sp
  | [] => .okb true
  | _ => .no
theorem ok5 : EntOK Try.prog TE 5 sGuard := by
  refine ⟨callable_of Try.func5 (by kernel_rfl), fun args => ?_⟩
  unfold sGuard
  split
  · refine fn_ofF tabsOK (specOK_cons ok8 (specOK_cons ok18 (specOK_cons ok19 specOK_nil))) mixed Try.func5 (by kernel_rfl) ?_
    refine Chk.mk ⟨rfl, rfl, ⟨⟨⟨⟨⟨trivial, by show _ = _; kernel_rfl⟩, by show _ = _; kernel_rfl⟩, by show _ = _; kernel_rfl⟩, by show _ = _; kernel_rfl⟩, by show _ = _; kernel_rfl⟩⟩ ?_
    repeat first
      | refine Brn.mk (fun h => absurd h (by decide +kernel)) (fun _ => ?_)
      | refine Brn.mk (fun _ => ?_) (fun h => absurd h (by decide +kernel))
    refine Chk.mk ⟨isI_mk, isI_fin (fun _ => 1) rfl ⟨trivial, by show _ = _; kernel_rfl⟩, rfl, rfl, by kernel_rfl⟩ ?_
    exact AVle.bit rfl
  · trivial
end
end Go.Proofs.Ytbhbjmneglkgnaa.Img
