/- Chapter 57: contracts of the recorder's small functions. Conditions: none. -/
import Derived.Test.YtgigipohmiopiaaRec1
import Derived.Test.YtgigipohmiopiaaRecD
import Derived.Test.YtgigipohmiopiaaAiThaw
import Derived.Test.YtgigipohmiopiaaAiMore
import Derived.Test.YtgigipohmiopiaaAiMore2
namespace Go.Proofs.Ytgigipohmiopiaa.Img
open Go Go.Proofs.Ytgigipohmiopiaa.AI Go.Proofs
noncomputable section
set_option maxRecDepth 100000
/-- The example's configuration. -/
structure CfgP (a b c d e f : Int) : Prop where
  a : a = 1
  b : b = 3
  c : c = 1
  d : d = 0
  e : e = 0
  f : f = 10
def cfL : List AV := [.int .i64 1, .int .i64 3, .int .i64 1, .int .i64 0, .int .i64 0, .int .i64 10]
def sCfg : Sp
  | [.agg [.int .i64 a, .int .i64 b, .int .i64 c, .int .i64 d, .int .i64 e, .int .i64 f]] => .pre (CfgP a b c d e f) (.err 0)
  | _ => .no
theorem ok16 : EntOK Try.prog TE 16 sCfg := by
  refine ⟨callable_of Try.func16 (by kernel_rfl), fun args => ?_⟩
  unfold sCfg
  split
  · rintro ⟨rfl, rfl, rfl, rfl, rfl, rfl⟩
    refine fn_ofF tabsOK specOK_nil mixed Try.func16 (by kernel_rfl) ?_
    repeat refine Brn.mk (fun h => absurd h (by decide +kernel)) (fun _ => ?_)
    exact AVle.nilErr rfl
  · trivial
structure OneI (s n : Nat) (f : Nat → Nat → AV) : Prop where
  s : s = 1
  n : n = 1
  f : f 0 0 = .int .i64 (vI f 0)
theorem OneI.le {s n : Nat} {f : Nat → Nat → AV} (h : OneI s n f) : AVle2 TE (.sl s n f) (.sl 1 1 fun _ _ => .int .i64 (vI f 0)) := by
  obtain ⟨rfl, rfl, hf⟩ := h
  refine le2_sl (.sl rfl fun i j hi hj => ?_)
  have : i = 0 := by omega
  have : j = 0 := by omega
  subst i j
  exact .of_eq hf
def sClo : Sp
  | [.sl s n f] => .pre (OneI s n f) (.sl 1 1 fun _ _ => .int .i64 (vI f 0))
  | _ => .no
theorem ok13 : EntOK Try.prog TE 13 sClo := by
  refine ⟨callable_of Try.func13 (by kernel_rfl), fun args => ?_⟩
  unfold sClo
  split
  · rename_i s n f
    intro h
    refine FnOK.args (m := [.sl 1 1 fun _ _ => .int .i64 (vI f 0)]) ?_ ⟨h.le, trivial⟩
    generalize vI f 0 = x
    refine fn_ofF tabsOK specOK_nil mixed Try.func13 (by kernel_rfl) ?_
    intro b hb
    have hb : b = false := hb (by decide)
    subst hb
    refine Brn.mk (fun q => absurd (show false = true from q) (by decide)) (fun _ => ?_)
    refine Chk.mk ⟨by decide, by decide⟩ ?_
    refine AVle.sl rfl fun i j hi hj => ?_
    have : i = 0 := by have : i < 1 := hi; omega
    have : j = 0 := by have : j < 1 := hj; omega
    subst i j
    rfl
  · trivial
structure ComP (m : Nat) (g : Nat → AV) (s n : Nat) (f : Nat → Nat → AV) : Prop where
  m : 11 ≤ m
  a : g 3 = .int .i64 0
  b : g 4 = .int .i64 0
  c : g 5 = .int .i64 10
  f : OneI s n f
def comG : Nat → AV := nth [.bad, .bad, .bad, .int .i64 0, .int .i64 0, .int .i64 10]
def sCom : Sp
  | [.iref m g, .sl s n f] => .flt (ComP m g s n f) (.bit (decide (10 < vI f 0)))
  | _ => .no
theorem ok14 : EntOK Try.prog TE 14 sCom := by
  refine ⟨callable_of Try.func14 (by kernel_rfl), fun args => ?_⟩
  unfold sCom
  split
  · rename_i m g s n f
    rintro ⟨hm, h3, h4, h5, h⟩
    refine FnOK.args (m := [.iref 11 comG, .sl 1 1 fun _ _ => .int .i64 (vI f 0)]) ?_ ⟨.iref hm fun j hj => ?_, h.le, trivial⟩
    · generalize vI f 0 = x
      refine fn_ofF tabsOK specOK_nil mixed Try.func14 (by kernel_rfl) ?_
      refine Chk.mk ⟨by decide, by decide⟩ ?_
      refine Brn.mk (fun _ => ?_) (fun q => absurd q (by decide +kernel))
      exact AVle.bit rfl
    · match j with
      | 0 => exact .bad
      | 1 => exact .bad
      | 2 => exact .bad
      | 3 => exact .of_eq h3
      | 4 => exact .of_eq h4
      | 5 => exact .of_eq h5
      | _ + 6 => exact .bad
  · trivial
structure StaP (m : Nat) (g : Nat → AV) : Prop where
  m : 11 ≤ m
  a : g 6 = .int .i64 (asI (g 6))
def staG (x : Int) : Nat → AV := nth [.bad, .bad, .bad, .bad, .bad, .bad, .int .i64 x]
def sSta : Sp
  | [.iref m g] => .flt (StaP m g) (.int .i64 (asI (g 6)))
  | [.nilP] => .ok (.int .i64 0)
  | _ => .no
theorem ok10 : EntOK Try.prog TE 10 sSta := by
  refine ⟨callable_of Try.func10 (by kernel_rfl), fun args => ?_⟩
  unfold sSta
  split
  · rename_i m g
    rintro ⟨hm, h6⟩
    refine FnOK.args (m := [.iref 11 (staG (asI (g 6)))]) ?_ ⟨.iref hm fun j hj => ?_, trivial⟩
    · generalize asI (g 6) = x
      refine fn_ofF tabsOK specOK_nil mixed Try.func10 (by kernel_rfl) ?_
      refine Brn.mk (fun q => absurd (show false = true from q) (by decide)) (fun _ => ?_)
      exact AVle.int rfl
    · match j with
      | 0 => exact .bad
      | 1 => exact .bad
      | 2 => exact .bad
      | 3 => exact .bad
      | 4 => exact .bad
      | 5 => exact .bad
      | 6 => exact .of_eq h6
      | _ + 7 => exact .bad
  · refine fn_ofF tabsOK specOK_nil mixed Try.func10 (by kernel_rfl) ?_
    refine Brn.mk (fun _ => ?_) (fun q => absurd (show true = false from q) (by decide))
    exact AVle.int rfl
  · trivial
def sTraN : Sp
  | [.nilP] => .ok (.tup [.nilS, .int .i64 (-1)])
  | _ => .no
theorem ok5n : EntOK Try.prog TE 5 sTraN := by
  refine ⟨callable_of Try.func5 (by kernel_rfl), fun args => ?_⟩
  unfold sTraN
  split
  · refine fn_ofF tabsOK specOK_nil mixed Try.func5 (by kernel_rfl) ?_
    refine Brn.mk (fun _ => ?_) (fun q => absurd (show true = false from q) (by decide))
    exact AVle.tup2 .refl (.int rfl)
  · trivial
def sPusN : Sp
  | [.nilP, .sl _ _ _] => .ok (.err 1)
  | _ => .no
theorem ok7n : EntOK Try.prog TE 7 sPusN := by
  refine ⟨callable_of Try.func7 (by kernel_rfl), fun args => ?_⟩
  unfold sPusN
  split
  · refine fn_ofF tabsOK specOK_nil mixed Try.func7 (by kernel_rfl) ?_
    refine Brn.mk (fun _ => ?_) (fun q => absurd (show true = false from q) (by decide))
    refine Chk.mk (by decide) ?_
    exact AVle.err rfl
  · trivial
def sErrN : Sp
  | [.nilP] => .ok (.err 1)
  | _ => .no
theorem ok8n : EntOK Try.prog TE 8 sErrN := by
  refine ⟨callable_of Try.func8 (by kernel_rfl), fun args => ?_⟩
  unfold sErrN
  split
  · refine fn_ofF tabsOK specOK_nil mixed Try.func8 (by kernel_rfl) ?_
    refine Brn.mk (fun _ => ?_) (fun q => absurd (show true = false from q) (by decide))
    refine Chk.mk (by decide) ?_
    exact AVle.err rfl
  · trivial
theorem ok9n : EntOK Try.prog TE 9 sErrN := by
  refine ⟨callable_of Try.func9 (by kernel_rfl), fun args => ?_⟩
  unfold sErrN
  split
  · refine fn_ofF tabsOK specOK_nil mixed Try.func9 (by kernel_rfl) ?_
    refine Brn.mk (fun _ => ?_) (fun q => absurd (show true = false from q) (by decide))
    refine Chk.mk (by decide) ?_
    exact AVle.err rfl
  · trivial
def sIs : Sp
  | [.err e, .int .i64 k] => .ok (.bit (!decide (e = 0) && decide (e = k)))
  | _ => .no
theorem ok6 : EntOK Try.prog TE 6 sIs := by
  refine ⟨callable_of Try.func6 (by kernel_rfl), fun args => ?_⟩
  unfold sIs
  split
  · refine fn_ofF tabsOK specOK_nil mixed Try.func6 (by kernel_rfl) ?_
    refine Brn.mk (fun q => AVle.bit ?_) (fun q => AVle.bit ?_)
    · rename_i e k
      rw [show (!decide (e = 0)) = true from q]; rfl
    · rename_i e k
      rw [show (!decide (e = 0)) = false from q]; rfl
  · trivial
structure TwoI (s n : Nat) (f : Nat → Nat → AV) (s' m : Nat) (g : Nat → Nat → AV) : Prop where
  h1 : OneI s n f
  h2 : OneI s' m g
  h5 : vI f 0 = vI g 0
def sInts : Sp
  | [.sl s n f, .sl s' m g] => .pre (TwoI s n f s' m g) (.bit true)
  | _ => .no
theorem ok17 : EntOK Try.prog TE 17 sInts := by
  refine ⟨callable_of Try.func17 (by kernel_rfl), fun args => ?_⟩
  unfold sInts
  split
  · rename_i s n f s' m g
    rintro ⟨hf, hg, he⟩
    refine FnOK.args (m := [.sl 1 1 fun _ _ => .int .i64 (vI f 0), .sl 1 1 fun _ _ => .int .i64 (vI g 0)]) ?_ ⟨hf.le, hg.le, trivial⟩
    generalize vI f 0 = x at *
    generalize vI g 0 = y at *
    refine fn_ofF tabsOK specOK_nil mixed Try.func17 (by kernel_rfl) ?_
    refine Brn.mk (fun h => absurd h (by decide +kernel)) (fun _ => ?_)
    refine LoopOK.mk ⟨{ i : Nat // i ≤ 1 }, fun i => mkSt [(0, .sl 1 1 fun _ _ => .int .i64 x), (1, .sl 1 1 fun _ _ => .int .i64 y), (12, .int .i64 1), (13, .int .i64 i.1)]
      [], fun i => 1 - i.1, ⟨⟨0, by omega⟩, ?_⟩, ?_⟩
    · exact wk_of [] rfl ⟨⟨rfl, rfl⟩, ⟨rfl, rfl⟩, ⟨rfl, rfl⟩, ⟨rfl, rfl⟩, trivial⟩ trivial
    rintro ⟨i, hi⟩
    refine Brn.mk (fun h => ?_) (fun h => AVle.bit rfl)
    have h : (i : Int) < 1 := of_decide_eq_true h
    have : i = 0 := by omega
    subst this
    refine Chk.mk ⟨Int.le_refl 0, (show (0 : Int) < 1 by decide)⟩ ?_
    refine Chk.mk ⟨Int.le_refl 0, (show (0 : Int) < 1 by decide)⟩ ?_
    refine Brn.mk (fun q => absurd he (ndT q)) (fun _ => ?_)
    refine ⟨⟨1, by omega⟩, by show 1 - 1 < 1 - 0; omega, ?_⟩
    exact wk_of [] rfl ⟨⟨rfl, rfl⟩, ⟨rfl, rfl⟩, ⟨rfl, rfl⟩, ⟨rfl, rfl⟩, trivial⟩ trivial
  · trivial
def tkF (z : Nat → Int) : Nat → Nat → AV := fun i _ => .sl 1 1 (fun _ _ => .int .i64 (z i))
def zF (f : Nat → Nat → AV) (i : Nat) : Int := asI (slF (f i 0) 0 0)
structure Tk3 (s n : Nat) (f : Nat → Nat → AV) : Prop where
  s : s = 1
  n : n = 3
  f : AllLt 3 fun i => Le1 TE (f i 0) (.sl 1 1 fun _ _ => .int .i64 (zF f i))
theorem Tk3.le {s n : Nat} {f : Nat → Nat → AV} (h : Tk3 s n f) : AVle2 TE (.sl s n f) (.sl 1 3 (tkF (zF f))) := by
  obtain ⟨rfl, rfl, hf⟩ := h
  refine le2_sl (.sl rfl fun i j hi hj => ?_)
  have : j = 0 := by omega
  subst j
  exact allLt hf i hi
structure RowsP (s n : Nat) (f : Nat → Nat → AV) (s' m : Nat) (g : Nat → Nat → AV) : Prop where
  h1 : Tk3 s n f
  h2 : Tk3 s' m g
  h3 : AllLt 3 fun i => zF f i = zF g i
def sRows : Sp
  | [.sl s n f, .sl s' m g] => .pre (RowsP s n f s' m g) (.bit true)
  | _ => .no
theorem ok12 : EntOK Try.prog TE 12 sRows := by
  refine ⟨callable_of Try.func12 (by kernel_rfl), fun args => ?_⟩
  unfold sRows
  split
  · rename_i s n f s' m g
    rintro ⟨hf, hg, he⟩
    refine FnOK.args (m := [.sl 1 3 (tkF (zF f)), .sl 1 3 (tkF (zF g))]) ?_ ⟨hf.le, hg.le, trivial⟩
    generalize zF f = x at *
    generalize zF g = y at *
    refine fn_ofF tabsOK (specOK_cons ok17 specOK_nil) mixed Try.func12 (by kernel_rfl) ?_
    refine Brn.mk (fun h => absurd h (by decide +kernel)) (fun _ => ?_)
    refine LoopOK.mk ⟨{ i : Nat // i ≤ 3 }, fun i => mkSt [(0, .sl 1 3 (tkF x)), (1, .sl 1 3 (tkF y)), (12, .int .i64 3), (13, .int .i64 i.1)]
      [], fun i => 3 - i.1, ⟨⟨0, by omega⟩, ?_⟩, ?_⟩
    · exact wk_of [] rfl ⟨⟨rfl, rfl⟩, ⟨rfl, rfl⟩, ⟨rfl, rfl⟩, ⟨rfl, rfl⟩, trivial⟩ trivial
    rintro ⟨i, hi⟩
    refine Brn.mk (fun h => ?_) (fun h => AVle.bit rfl)
    have h : (i : Int) < 3 := of_decide_eq_true h
    refine Chk.mk ⟨Int.natCast_nonneg i, h⟩ (Chk.mk ⟨Int.natCast_nonneg i, h⟩ ?_)
    refine Chk.mk ⟨⟨rfl, rfl, rfl⟩, ⟨rfl, rfl, rfl⟩, (show x i = y i from allLt he i (by omega))⟩ ?_
    refine Brn.mk (fun q => absurd (show (!true) = true from q) (by decide)) (fun _ => ?_)
    refine ⟨⟨i + 1, by omega⟩, by show 3 - (i + 1) < 3 - i; omega, ?_⟩
    exact wk_of [] rfl ⟨⟨rfl, rfl⟩, ⟨rfl, rfl⟩, ⟨rfl, rfl⟩, ⟨wrS (i := i) (by omega), rfl⟩, trivial⟩ trivial
  · trivial
end
end Go.Proofs.Ytgigipohmiopiaa.Img
