/- Chapter 48: start, the greatest reaction, the cause. Conditions: none. -/
import Derived.Test.YtiodcjbpfhfmbaaFlt2
namespace Go.Proofs.Ytiodcjbpfhfmbaa.Img
open Go Go.Proofs.Ytiodcjbpfhfmbaa.AI Go.Proofs
noncomputable section
set_option maxRecDepth 100000
def st0L (n : Nat) : List AV := stL n n (fun _ => false) (fun _ => false) 0 0 0 (fun _ => 0) (fun _ => 0)
theorem st_zero {T : TypeId} {n m : Nat} {x y : Nat → Bool} {re tk : Int} {k : Nat} {ea eb : Nat → Int} (h1 : n = 0) (h2 : m = 0) (h3 : re = 0) (h4 : tk = 0) (h5 : k = 0) :
    AVle2 T (.agg [.nilS, .nilS, .int .i64 0, .int .i64 0, .nilS]) (.agg (stL n m x y re tk k ea eb)) :=
  .aggL ⟨le1_nil h1, le1_nil h2, .of_eq (by rw [h3]), .of_eq (by rw [h4]), le1_nil h5, trivial⟩
def sStart : Sp
  | [.sl s n f] => .pre (RulOK s n f) (.tup [.agg (st0L (zN (rchk n (vI f)) n)), .err (rchk n (vI f))])
  | _ => .no
theorem ok12 : EntOK Try.prog TE 12 sStart := by
  refine ⟨callable_of Try.func12 (by kernel_rfl), fun args => ?_⟩
  unfold sStart
  split
  · rename_i s n f
    rintro ⟨hf, hn⟩
    refine FnOK.args (m := [.sl 2 n (rulF (vI f) (vL f))]) ?_ ⟨le2_sl hf.le1, trivial⟩
    generalize vI f = r
    generalize vL f = l
    refine fn_ofF tabsOK (specOK_cons ok14 specOK_nil) mixed Try.func12 (by kernel_rfl) ?_
    refine Chk.mk ⟨isR_mk, hn⟩ ?_
    refine Brn.mk (fun h => ?_) (fun h => ?_)
    · have h : ¬ rchk n r = 0 := ndT h
      exact AVle.tup2 (st_zero (zN1 h) (zN1 h) rfl rfl rfl) (.err rfl)
    have h : rchk n r = 0 := ndF h
    refine Chk.mk ⟨by omega, by omega, by omega, by omega⟩ (Chk.mk ⟨by omega, by omega, by omega, by omega⟩ (Chk.mk (by kernel_rfl) ?_))
    refine AVle.tup2 (.aggL ⟨.sl (zN0 h).symm fun i j hi hj => .of_eq ?_, .sl (zN0 h).symm fun i j hi hj => .of_eq ?_, .refl, .refl, le1_nil rfl, trivial⟩) (.nilErr h)
    · have hj : j < 1 := hj
      have : j = 0 := by omega
      subst this; rfl
    · have hj : j < 1 := hj
      have : j = 0 := by omega
      subst this; rfl
  · trivial
def sRStart : Sp
  | [.sl s n f] => .pre (RulOK s n f) (.agg (st0L n))
  | _ => .no
theorem AVle.of_agg {T : TypeId} {a b : List AV} (h : AVle2 T (.agg a) (.agg b)) : AVle T (.agg a) (.agg b) := .of2 rfl rfl h
theorem ok16 : EntOK Try.prog TE 16 sRStart := by
  refine ⟨callable_of Try.func16 (by kernel_rfl), fun args => ?_⟩
  unfold sRStart
  split
  · rename_i s n f
    rintro ⟨hf, hn⟩
    refine FnOK.args (m := [.sl 2 n (rulF (vI f) (vL f))]) ?_ ⟨le2_sl hf.le1, trivial⟩
    generalize vI f = r
    generalize vL f = l
    refine fn_ofF tabsOK specOK_nil mixed Try.func16 (by kernel_rfl) ?_
    refine Chk.mk ⟨by omega, by omega, by omega, by omega⟩ (Chk.mk ⟨by omega, by omega, by omega, by omega⟩ (Chk.mk (by kernel_rfl) ?_))
    refine AVle.of_agg (.aggL ⟨.sl rfl fun i j hi hj => .of_eq ?_, .sl rfl fun i j hi hj => .of_eq ?_, .refl, .refl, le1_nil rfl, trivial⟩)
    · have hj : j < 1 := hj
      have : j = 0 := by omega
      subst this; rfl
    · have hj : j < 1 := hj
      have : j = 0 := by omega
      subst this; rfl
  · trivial
/-- The greatest reaction of what counts. -/
def wst (r : Nat → Int) (c : Nat → Bool) : Nat → Int
  | 0 => 0
  | n + 1 => if c n = true then max (wst r c n) (r n) else wst r c n
theorem wst_nonneg (r : Nat → Int) (c : Nat → Bool) : ∀ n, 0 ≤ wst r c n
  | 0 => Int.le_refl _
  | n + 1 => by have := wst_nonneg r c n; unfold wst; split <;> omega
theorem wst_congr {r : Nat → Int} {c c' : Nat → Bool} : ∀ {n : Nat}, (∀ i, i < n → c i = c' i) → wst r c n = wst r c' n
  | 0, _ => rfl
  | n + 1, h => by rw [wst, wst, wst_congr (n := n) (fun i hi => h i (by omega)), h n (by omega)]
def cnts (a h : AV) (i : Nat) : Bool := vB (slF a) i || vB (slF h) i
structure WOK (s n : Nat) (f : Nat → Nat → AV) (a h lg : AV) : Prop where
  r : RulOK s n f
  s : StOK a h lg
  a : n ≤ slN a
  h : n ≤ slN h
def sWst : Sp
  | [.sl s n f, .agg [a, h, .int .i64 _, .int .i64 _, lg]] => .pre (WOK s n f a h lg) (.int .i64 (wst (vI f) (cnts a h) n))
  | _ => .no
theorem ok33 : EntOK Try.prog TE 33 sWst := by
  refine ⟨callable_of Try.func33 (by kernel_rfl), fun args => ?_⟩
  unfold sWst
  split
  · rename_i s n f a h re tk lg
    rintro ⟨⟨hf, hn⟩, H, ha, hh⟩
    refine FnOK.args (m := [.sl 2 n (rulF (vI f) (vL f)), .agg (stL (slN a) (slN h) (vB (slF a)) (vB (slF h)) re tk (slN lg) (vI (slF lg)) (vJ (slF lg)))]) ?_ ⟨le2_sl hf.le1, H.le, trivial⟩
    have ec : cnts a h = fun i => vB (slF a) i || vB (slF h) i := rfl
    rw [ec]
    generalize vI f = r
    generalize vL f = l
    generalize slN a = na at *
    generalize slN h = nh at *
    generalize slN lg = k
    generalize vB (slF a) = x
    generalize vB (slF h) = y
    generalize vI (slF lg) = ea
    generalize vJ (slF lg) = eb
    refine fn_ofF tabsOK specOK_nil mixed Try.func33 (by kernel_rfl) ?_
    refine LoopOK.mk ⟨{ i : Nat // i ≤ n }, fun i => mkSt [(3, .loc 3 0), (5, .int .i64 (wst r (fun i => x i || y i) i.1)), (8, .sl 2 n (rulF r l)), (9, .int .i64 n), (10, .int .i64 i.1)]
      [(3, ⟨28, 5, 1, fun _ j => nth (stL na nh x y re tk k ea eb) j, 0, true⟩)], fun i => n - i.1, ⟨⟨0, by omega⟩, ?_⟩, ?_⟩
    · refine wk_of [(3, some 3)] rfl ⟨rfl, ⟨rfl, rfl⟩, ⟨rfl, rfl⟩, ⟨rfl, rfl⟩, ⟨rfl, rfl⟩, trivial⟩ ⟨RowLe.fin rfl rfl rfl rfl rfl ?_, trivial⟩
      (repeat' first | exact trivial | exact ⟨by kernel_rfl, by kernel_rfl⟩ | exact Or.inr (by kernel_rfl) | (show _ = _; kernel_rfl) | refine ⟨?_, ?_⟩)
    rintro ⟨i, hi⟩
    have hi : i ≤ n := hi
    refine Brn.mk (fun h1 => ?_) (fun h1 => ?_)
    · have h1 : (i : Int) < n := of_decide_eq_true h1
      refine Chk.mk ⟨Int.natCast_nonneg i, h1⟩ ?_
      refine Chk.mk ⟨Int.natCast_nonneg i, (show (i : Int) < na by omega)⟩ ?_
      have wt : (x i || y i) = true → wst r (fun i => x i || y i) (i + 1) = max (wst r (fun i => x i || y i) i) (r i) := fun q => if_pos q
      refine Brn.mk (fun h2 => ?_) (fun h2 => ?_)
      · have h2 : x i = true := h2
        refine ⟨⟨i + 1, by omega⟩, by show n - (i + 1) < n - i; omega, ?_⟩
        refine wk_of [(3, some 3)] rfl ⟨rfl, ⟨congrArg (AV.int .i64) (wt (by rw [h2]; rfl)).symm, rfl⟩, ⟨rfl, rfl⟩, ⟨rfl, rfl⟩, ⟨wrS (i := i) (by omega), rfl⟩, trivial⟩ ⟨RowLe.fin rfl rfl rfl rfl rfl ?_, trivial⟩
        (repeat' first | exact trivial | exact ⟨by kernel_rfl, by kernel_rfl⟩ | exact Or.inr (by kernel_rfl) | (show _ = _; kernel_rfl) | refine ⟨?_, ?_⟩)
      · have h2 : x i = false := h2
        refine Chk.mk ⟨Int.natCast_nonneg i, (show (i : Int) < nh by omega)⟩ ?_
        refine Brn.mk (fun h3 => ?_) (fun h3 => ?_)
        · have h3 : y i = true := h3
          refine ⟨⟨i + 1, by omega⟩, by show n - (i + 1) < n - i; omega, ?_⟩
          refine wk_of [(3, some 3)] rfl ⟨rfl, ⟨congrArg (AV.int .i64) (wt (by rw [h3, Bool.or_true])).symm, rfl⟩, ⟨rfl, rfl⟩, ⟨rfl, rfl⟩, ⟨wrS (i := i) (by omega), rfl⟩, trivial⟩ ⟨RowLe.fin rfl rfl rfl rfl rfl ?_, trivial⟩
          (repeat' first | exact trivial | exact ⟨by kernel_rfl, by kernel_rfl⟩ | exact Or.inr (by kernel_rfl) | (show _ = _; kernel_rfl) | refine ⟨?_, ?_⟩)
        · have h3 : y i = false := h3
          have wf : wst r (fun i => x i || y i) (i + 1) = wst r (fun i => x i || y i) i := if_neg (by show ¬ (x i || y i) = true; rw [h2, h3]; decide)
          refine ⟨⟨i + 1, by omega⟩, by show n - (i + 1) < n - i; omega, ?_⟩
          refine wk_of [(3, some 3)] rfl ⟨rfl, ⟨congrArg (AV.int .i64) wf.symm, rfl⟩, ⟨rfl, rfl⟩, ⟨rfl, rfl⟩, ⟨wrS (i := i) (by omega), rfl⟩, trivial⟩ ⟨RowLe.fin rfl rfl rfl rfl rfl ?_, trivial⟩
          (repeat' first | exact trivial | exact ⟨by kernel_rfl, by kernel_rfl⟩ | exact Or.inr (by kernel_rfl) | (show _ = _; kernel_rfl) | refine ⟨?_, ?_⟩)
    · have h1 : ¬ (i : Int) < n := of_decide_eq_false h1
      have : i = n := by omega
      subst this
      exact AVle.int rfl
  · trivial
theorem ok34 : EntOK Try.prog TE 34 sWst := by
  refine ⟨callable_of Try.func34 (by kernel_rfl), fun args => ?_⟩
  unfold sWst
  split
  · rename_i s n f a h re tk lg
    rintro ⟨⟨hf, hn⟩, H, ha, hh⟩
    refine FnOK.args (m := [.sl 2 n (rulF (vI f) (vL f)), .agg (stL (slN a) (slN h) (vB (slF a)) (vB (slF h)) re tk (slN lg) (vI (slF lg)) (vJ (slF lg)))]) ?_ ⟨le2_sl hf.le1, H.le, trivial⟩
    have ec : cnts a h = fun i => vB (slF a) i || vB (slF h) i := rfl
    rw [ec]
    generalize vI f = r
    generalize vL f = l
    generalize slN a = na at *
    generalize slN h = nh at *
    generalize slN lg = k
    generalize vB (slF a) = x
    generalize vB (slF h) = y
    generalize vI (slF lg) = ea
    generalize vJ (slF lg) = eb
    refine fn_ofF tabsOK specOK_nil mixed Try.func34 (by kernel_rfl) ?_
    refine LoopOK.mk ⟨{ i : Nat // i ≤ n }, fun i => mkSt [(0, .sl 2 n (rulF r l)), (3, .loc 3 0), (5, .int .i64 (wst r (fun i => x i || y i) i.1)), (6, .int .i64 i.1)]
      [(3, ⟨28, 5, 1, fun _ j => nth (stL na nh x y re tk k ea eb) j, 0, true⟩)], fun i => n - i.1, ⟨⟨0, by omega⟩, ?_⟩, ?_⟩
    · refine wk_of [(3, some 3)] rfl ⟨⟨rfl, rfl⟩, rfl, ⟨rfl, rfl⟩, ⟨rfl, rfl⟩, trivial⟩ ⟨RowLe.fin rfl rfl rfl rfl rfl ?_, trivial⟩
      (repeat' first | exact trivial | exact ⟨by kernel_rfl, by kernel_rfl⟩ | exact Or.inr (by kernel_rfl) | (show _ = _; kernel_rfl) | refine ⟨?_, ?_⟩)
    rintro ⟨i, hi⟩
    have hi : i ≤ n := hi
    refine Brn.mk (fun h1 => ?_) (fun h1 => ?_)
    · have h1 : (i : Int) < n := of_decide_eq_true h1
      refine Chk.mk ⟨Int.natCast_nonneg i, (show (i : Int) < na by omega)⟩ ?_
      have wt : (x i || y i) = true → wst r (fun i => x i || y i) (i + 1) = max (wst r (fun i => x i || y i) i) (r i) := fun q => if_pos q
      refine Brn.mk (fun h2 => ?_) (fun h2 => ?_)
      · have h2 : x i = true := h2
        refine Chk.mk ⟨Int.natCast_nonneg i, h1⟩ ?_
        refine ⟨⟨i + 1, by omega⟩, by show n - (i + 1) < n - i; omega, ?_⟩
        refine wk_of [(3, some 3)] rfl ⟨⟨rfl, rfl⟩, rfl, ⟨congrArg (AV.int .i64) (wt (by rw [h2]; rfl)).symm, rfl⟩, ⟨wrS (i := i) (by omega), rfl⟩, trivial⟩ ⟨RowLe.fin rfl rfl rfl rfl rfl ?_, trivial⟩
        (repeat' first | exact trivial | exact ⟨by kernel_rfl, by kernel_rfl⟩ | exact Or.inr (by kernel_rfl) | (show _ = _; kernel_rfl) | refine ⟨?_, ?_⟩)
      · have h2 : x i = false := h2
        refine Chk.mk ⟨Int.natCast_nonneg i, (show (i : Int) < nh by omega)⟩ ?_
        refine Brn.mk (fun h3 => ?_) (fun h3 => ?_)
        · have h3 : y i = true := h3
          refine Chk.mk ⟨Int.natCast_nonneg i, h1⟩ ?_
          refine ⟨⟨i + 1, by omega⟩, by show n - (i + 1) < n - i; omega, ?_⟩
          refine wk_of [(3, some 3)] rfl ⟨⟨rfl, rfl⟩, rfl, ⟨congrArg (AV.int .i64) (wt (by rw [h3, Bool.or_true])).symm, rfl⟩, ⟨wrS (i := i) (by omega), rfl⟩, trivial⟩ ⟨RowLe.fin rfl rfl rfl rfl rfl ?_, trivial⟩
          (repeat' first | exact trivial | exact ⟨by kernel_rfl, by kernel_rfl⟩ | exact Or.inr (by kernel_rfl) | (show _ = _; kernel_rfl) | refine ⟨?_, ?_⟩)
        · have h3 : y i = false := h3
          have wf : wst r (fun i => x i || y i) (i + 1) = wst r (fun i => x i || y i) i := if_neg (by show ¬ (x i || y i) = true; rw [h2, h3]; decide)
          refine ⟨⟨i + 1, by omega⟩, by show n - (i + 1) < n - i; omega, ?_⟩
          refine wk_of [(3, some 3)] rfl ⟨⟨rfl, rfl⟩, rfl, ⟨congrArg (AV.int .i64) wf.symm, rfl⟩, ⟨wrS (i := i) (by omega), rfl⟩, trivial⟩ ⟨RowLe.fin rfl rfl rfl rfl rfl ?_, trivial⟩
          (repeat' first | exact trivial | exact ⟨by kernel_rfl, by kernel_rfl⟩ | exact Or.inr (by kernel_rfl) | (show _ = _; kernel_rfl) | refine ⟨?_, ?_⟩)
    · have h1 : ¬ (i : Int) < n := of_decide_eq_false h1
      have : i = n := by omega
      subst this
      exact AVle.int rfl
  · trivial
end
end Go.Proofs.Ytiodcjbpfhfmbaa.Img
