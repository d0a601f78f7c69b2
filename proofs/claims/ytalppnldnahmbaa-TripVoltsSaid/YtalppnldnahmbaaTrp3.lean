/- Chapter 44: the example, the greatest current and voltage. Conditions: none. -/
import Derived.Test.YtalppnldnahmbaaTrp2
namespace Go.Proofs.Ytalppnldnahmbaa.Img
open Go Go.Proofs.Ytalppnldnahmbaa.AI Go.Proofs
noncomputable section
set_option maxRecDepth 100000
def sShown : Sp
  | [.int .i64 c, .int .i64 l] => .ok (.agg [.int .i64 0, .int .i64 c, .int .i64 0, .int .i64 l, .bit false, .bit false, .bit false, .bit false, .bit false, .bit false])
  | _ => .no
theorem ok19 : EntOK Try.prog TE 19 sShown := by
  refine ⟨callable_of Try.func19 (by kernel_rfl), fun args => ?_⟩
  unfold sShown
  split
  · refine fn_ofF tabsOK specOK_nil mixed Try.func19 (by kernel_rfl) ?_
    refine AVle.agg ?_
    kernel_rfl
  · trivial
def sEx : Sp
  | [] => .ok (.agg [.int .i64 100, .int .i64 0, .int .i64 1000, .int .i64 2, .int .i64 1, .int .i64 3])
  | _ => .no
theorem ok27 : EntOK Try.prog TE 27 sEx := by
  refine ⟨callable_of Try.func27 (by kernel_rfl), fun args => ?_⟩
  unfold sEx
  split
  · refine fn_ofF tabsOK specOK_nil mixed Try.func27 (by kernel_rfl) ?_
    refine AVle.agg ?_
    kernel_rfl
  · trivial
def tst (k : Nat) : TS := match k with
  | 0 => .zero
  | 1 => .zero
  | 2 => ⟨1, 2, 0, 0, false⟩
  | 3 => ⟨1, 1, 0, 0, false⟩
  | _ => ⟨1, 0, 0, 0, true⟩
def offV (k : Nat) : Int := match k with
  | 4 => 3
  | _ => 0
def curV (k : Nat) : Int := match k with
  | 0 => 90
  | 1 => 101
  | 2 => 120
  | _ => 130
inductive K5 where
  | k0 | k1 | k2 | k3 | k4
def K5.n : K5 → Nat
  | .k0 => 0
  | .k1 => 1
  | .k2 => 2
  | .k3 => 3
  | .k4 => 4
def sAwake : Sp
  | [] => .okb true
  | _ => .no
set_option maxHeartbeats 2000000 in
theorem ok12 : EntOK Try.prog TE 12 sAwake := by
  refine ⟨callable_of Try.func12 (by kernel_rfl), fun args => ?_⟩
  unfold sAwake
  split
  · refine fn_ofF tabsOK (specOK_cons ok27 (specOK_cons ok19 (specOK_cons ok16 specOK_nil))) mixed Try.func12 (by kernel_rfl) ?_
    refine LoopOK.mk ⟨K5, fun k => mkSt [(1, .loc 1 0), (2, .int .i64 (offV k.n)), (8, .own 100 4), (9, .int .i64 4), (10, .int .i64 k.n)]
      [(1, ⟨32, 5, 1, fun _ j => nth (tst k.n).l j, 0, true⟩), (100, ⟨3, 1, 4, fun i _ => .int .i64 (curV i), 0, false⟩)], fun k => 4 - k.n, ⟨.k0, ?_⟩, ?_⟩
    · refine wk_of [(1, some 1), (100, some 8)] rfl ⟨rfl, ⟨rfl, rfl⟩, rfl, ⟨rfl, rfl⟩, ⟨rfl, rfl⟩, trivial⟩ ⟨RowLe.fin rfl rfl rfl rfl rfl ?_, RowLe.fin rfl rfl rfl rfl rfl ?_, trivial⟩
      all_goals (repeat' first | exact trivial | exact ⟨by kernel_rfl, by kernel_rfl⟩ | exact Or.inr (by kernel_rfl) | refine ⟨?_, ?_⟩)
    · intro k
      cases k
      all_goals
        repeat first
          | refine Brn.mk (fun h => absurd h (by decide +kernel)) (fun _ => ?_)
          | refine Brn.mk (fun _ => ?_) (fun h => absurd h (by decide +kernel))
          | refine Chk.mk (by decide) ?_
      · refine ⟨.k1, by decide, ?_⟩
        refine wk_of [(1, some 1), (100, some 100)] rfl ⟨rfl, ⟨rfl, rfl⟩, rfl, ⟨rfl, rfl⟩, ⟨rfl, rfl⟩, trivial⟩ ⟨RowLe.fin rfl rfl rfl rfl rfl ?_, RowLe.fin rfl rfl rfl rfl rfl ?_, trivial⟩
        all_goals (repeat' first | exact trivial | exact ⟨by kernel_rfl, by kernel_rfl⟩ | exact Or.inr (by kernel_rfl) | refine ⟨?_, ?_⟩)
      · refine ⟨.k2, by decide, ?_⟩
        refine wk_of [(1, some 1), (100, some 100)] rfl ⟨rfl, ⟨rfl, rfl⟩, rfl, ⟨rfl, rfl⟩, ⟨rfl, rfl⟩, trivial⟩ ⟨RowLe.fin rfl rfl rfl rfl rfl ?_, RowLe.fin rfl rfl rfl rfl rfl ?_, trivial⟩
        all_goals (repeat' first | exact trivial | exact ⟨by kernel_rfl, by kernel_rfl⟩ | exact Or.inr (by kernel_rfl) | refine ⟨?_, ?_⟩)
      · refine ⟨.k3, by decide, ?_⟩
        refine wk_of [(1, some 1), (100, some 100)] rfl ⟨rfl, ⟨rfl, rfl⟩, rfl, ⟨rfl, rfl⟩, ⟨rfl, rfl⟩, trivial⟩ ⟨RowLe.fin rfl rfl rfl rfl rfl ?_, RowLe.fin rfl rfl rfl rfl rfl ?_, trivial⟩
        all_goals (repeat' first | exact trivial | exact ⟨by kernel_rfl, by kernel_rfl⟩ | exact Or.inr (by kernel_rfl) | refine ⟨?_, ?_⟩)
      · refine ⟨.k4, by decide, ?_⟩
        refine wk_of [(1, some 1), (100, some 100)] rfl ⟨rfl, ⟨rfl, rfl⟩, rfl, ⟨rfl, rfl⟩, ⟨rfl, rfl⟩, trivial⟩ ⟨RowLe.fin rfl rfl rfl rfl rfl ?_, RowLe.fin rfl rfl rfl rfl rfl ?_, trivial⟩
        all_goals (repeat' first | exact trivial | exact ⟨by kernel_rfl, by kernel_rfl⟩ | exact Or.inr (by kernel_rfl) | refine ⟨?_, ?_⟩)
      · exact AVle.bit (by decide +kernel)
  · trivial
def okI (e x : Int) : Int := if e = 0 then x else 0
/-- The error of a peak's arguments. -/
def riseE (to ri : Int) : Int := if outB to 0 16777216 = true ∨ outB ri 0 16777216 = true then 3 else 0
def peakE (c to ri : Int) : Int := if c = 0 then riseE to ri else c
def sPeak38 : Sp
  | [.agg [.int .i64 cu, .int .i64 lo, .int .i64 hi, .int .i64 re, .int .i64 lt, .int .i64 ht], .int .i64 th, .int .i64 to, .int .i64 ri, .int .i64 ti] =>
    .ok (.tup [.int .i64 (okI (peakE (tchk cu lo hi re lt ht) to ri) (wr (wr (th + to) + wr (ti * ri)))), .err (peakE (tchk cu lo hi re lt ht) to ri)])
  | _ => .no
theorem ok38 : EntOK Try.prog TE 38 sPeak38 := by
  refine ⟨callable_of Try.func38 (by kernel_rfl), fun args => ?_⟩
  unfold sPeak38
  split
  · rename_i cu lo hi re lt ht th to ri ti
    refine fn_ofF tabsOK (specOK_cons ok14 (specOK_cons ok28 specOK_nil)) mixed Try.func38 (by kernel_rfl) ?_
    refine Brn.mk (fun h1 => ?_) (fun h1 => ?_)
    · have h1 : ¬ tchk cu lo hi re lt ht = 0 := ndT h1
      have e : peakE (tchk cu lo hi re lt ht) to ri = tchk cu lo hi re lt ht := by rw [peakE, if_neg h1]
      exact AVle.tup2 (.int (by rw [e, okI, if_neg h1])) (.err e.symm)
    have h1 : tchk cu lo hi re lt ht = 0 := ndF h1
    have bad : (outB to 0 16777216 = true ∨ outB ri 0 16777216 = true) → AVle TE (.tup [.int .i64 0, .err 3]) (.tup [.int .i64 (okI (peakE (tchk cu lo hi re lt ht) to ri) (wr (wr (th + to) + wr (ti * ri)))), .err (peakE (tchk cu lo hi re lt ht) to ri)]) := fun h => by
      have e : peakE (tchk cu lo hi re lt ht) to ri = 3 := by rw [peakE, if_pos h1, riseE, if_pos h]
      exact AVle.tup2 (.int (by rw [e, okI, if_neg (by decide)])) (.err e.symm)
    refine Brn.mk (fun h => Chk.mk (by decide) (bad (.inl (by simpa using h)))) (fun h2 => ?_)
    refine Brn.mk (fun h => Chk.mk (by decide) (bad (.inr (by simpa using h)))) (fun h3 => ?_)
    have e : peakE (tchk cu lo hi re lt ht) to ri = 0 := by
      rw [peakE, if_pos h1, riseE, if_neg]
      simp only [Bool.not_not] at h2 h3
      simp [h2, h3]
    exact AVle.tup2 (.int (by rw [e, okI, if_pos rfl])) (.nilErr e)
  · trivial
def peakI (cu re to ri : Int) : Int := wr (wr (cu + to) + wr (wr (re + 1) * ri))
def voltI (hi re ht to ri : Int) : Int := wr (wr (hi + to) + wr (wr (ht + re) * ri))
def sPeak : Sp
  | [.agg [.int .i64 cu, .int .i64 lo, .int .i64 hi, .int .i64 re, .int .i64 lt, .int .i64 ht], .int .i64 to, .int .i64 ri] =>
    .ok (.tup [.int .i64 (okI (peakE (tchk cu lo hi re lt ht) to ri) (peakI cu re to ri)), .err (peakE (tchk cu lo hi re lt ht) to ri)])
  | _ => .no
theorem ok22 : EntOK Try.prog TE 22 sPeak := by
  refine ⟨callable_of Try.func22 (by kernel_rfl), fun args => ?_⟩
  unfold sPeak
  split
  · refine fn_ofF tabsOK (specOK_cons ok38 specOK_nil) mixed Try.func22 (by kernel_rfl) ?_
    exact AVle.tup2 (.int rfl) (.err rfl)
  · trivial
def sVolt : Sp
  | [.agg [.int .i64 cu, .int .i64 lo, .int .i64 hi, .int .i64 re, .int .i64 lt, .int .i64 ht], .int .i64 to, .int .i64 ri] =>
    .ok (.tup [.int .i64 (okI (peakE (tchk cu lo hi re lt ht) to ri) (voltI hi re ht to ri)), .err (peakE (tchk cu lo hi re lt ht) to ri)])
  | _ => .no
theorem ok23 : EntOK Try.prog TE 23 sVolt := by
  refine ⟨callable_of Try.func23 (by kernel_rfl), fun args => ?_⟩
  unfold sVolt
  split
  · refine fn_ofF tabsOK (specOK_cons ok38 specOK_nil) mixed Try.func23 (by kernel_rfl) ?_
    exact AVle.tup2 (.int rfl) (.err rfl)
  · trivial
def sRise : Sp
  | [.int .i64 to, .int .i64 ri] => .ok (.int .i64 (riseE to ri))
  | _ => .no
theorem ok24 : EntOK Try.prog TE 24 sRise := by
  refine ⟨callable_of Try.func24 (by kernel_rfl), fun args => ?_⟩
  unfold sRise
  split
  · refine fn_ofF tabsOK (specOK_cons ok29 specOK_nil) mixed Try.func24 (by kernel_rfl) ?_
    refine Brn.mk (fun h => AVle.int ?_) (fun h1 => ?_)
    · rw [riseE, if_pos (.inl (by simpa using h))]
    refine Brn.mk (fun h => AVle.int ?_) (fun h2 => AVle.int ?_)
    · rw [riseE, if_pos (.inr (by simpa using h))]
    · simp only [Bool.not_not] at h1 h2
      rw [riseE, if_neg (by simp [h1, h2])]
  · trivial
def sPeakR : Sp
  | [.agg [.int .i64 cu, .int .i64 _, .int .i64 _, .int .i64 re, .int .i64 _, .int .i64 _], .int .i64 to, .int .i64 ri] => .ok (.int .i64 (peakI cu re to ri))
  | _ => .no
theorem ok25 : EntOK Try.prog TE 25 sPeakR := by
  refine ⟨callable_of Try.func25 (by kernel_rfl), fun args => ?_⟩
  unfold sPeakR
  split
  · refine fn_ofF tabsOK specOK_nil mixed Try.func25 (by kernel_rfl) ?_
    exact AVle.int rfl
  · trivial
def sVoltR : Sp
  | [.agg [.int .i64 _, .int .i64 _, .int .i64 hi, .int .i64 re, .int .i64 _, .int .i64 ht], .int .i64 to, .int .i64 ri] => .ok (.int .i64 (voltI hi re ht to ri))
  | _ => .no
theorem ok26 : EntOK Try.prog TE 26 sVoltR := by
  refine ⟨callable_of Try.func26 (by kernel_rfl), fun args => ?_⟩
  unfold sVoltR
  split
  · refine fn_ofF tabsOK specOK_nil mixed Try.func26 (by kernel_rfl) ?_
    exact AVle.int rfl
  · trivial
/-- A whole number in its range. -/
def InR (z : Int) : Prop := -9223372036854775808 ≤ z ∧ z ≤ 9223372036854775807
theorem inR_of {z : Int} (h : (Lit.int .i64 z).wf = true) : InR z := by
  simp [Lit.wf, IntKind.min, IntKind.max, IntKind.signed, IntKind.bits] at h
  exact ⟨by omega, by omega⟩
theorem openI {l : List AV} {d : Nat} (h : Arg E0 (d + 1) 3 l) : ∃ g, l = [.int .i64 g] ∧ InR g := by
  obtain ⟨g, rfl, hg⟩ := h
  exact ⟨g, rfl, inR_of hg⟩
theorem openB {l : List AV} {d : Nat} (h : Arg E0 (d + 1) 4 l) : ∃ g, l = [.bit g] := h
theorem openC {l : List AV} {d : Nat} (h : Arg E0 (d + 2) 23 l) : ∃ cu lo hi re lt ht, l = [.int .i64 cu, .int .i64 lo, .int .i64 hi, .int .i64 re, .int .i64 lt, .int .i64 ht] ∧ InR cu ∧ InR lo ∧ InR hi ∧ InR re ∧ InR lt ∧ InR ht := by
  obtain ⟨_, _, rfl, h1, _, _, rfl, h2, _, _, rfl, h3, _, _, rfl, h4, _, _, rfl, h5, _, _, rfl, h6, rfl⟩ := h
  obtain ⟨a, rfl, p1⟩ := openI h1
  obtain ⟨b, rfl, p2⟩ := openI h2
  obtain ⟨c, rfl, p3⟩ := openI h3
  obtain ⟨d, rfl, p4⟩ := openI h4
  obtain ⟨e, rfl, p5⟩ := openI h5
  obtain ⟨f, rfl, p6⟩ := openI h6
  exact ⟨a, b, c, d, e, f, rfl, p1, p2, p3, p4, p5, p6⟩
end
end Go.Proofs.Ytalppnldnahmbaa.Img
