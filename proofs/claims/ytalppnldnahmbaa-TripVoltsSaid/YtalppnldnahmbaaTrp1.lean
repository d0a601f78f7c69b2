/- The tables, and the small functions' contracts. Conditions: none. -/
import Derived.Test.YtalppnldnahmbaaAiArr
import Derived.Test.YtalppnldnahmbaaAiFrz
import Derived.Test.YtalppnldnahmbaaChecked
import Derived.ProofKit
namespace Go.Proofs.Ytalppnldnahmbaa.Img
open Go Go.Proofs.Ytalppnldnahmbaa.AI Go.Proofs
noncomputable section
set_option maxRecDepth 100000
def tabs : List (Nat × TD) := [
  (2, ⟨.int .i64, 1, 8, [.int .i64 0]⟩),
  (3, ⟨.int .i64, 1, 8, [.int .i64 0]⟩),
  (4, ⟨.bool, 1, 1, [.bit false]⟩),
  (5, ⟨.int .u8, 1, 1, [.int .u8 0]⟩),
  (9, ⟨.prim, 1, 16, [.bad]⟩),
  (12, ⟨.int .u64, 1, 8, [.int .u64 0]⟩),
  (13, ⟨.struct [(0, 1, 9), (1, 1, 12)], 2, 24, [.bad, .int .u64 0]⟩),
  (20, ⟨.iface, 1, 16, [.nilI]⟩),
  (21, ⟨.int .i32, 1, 4, [.int .i32 0]⟩),
  (22, ⟨.struct [(0, 1, 3), (1, 1, 3), (2, 1, 3), (3, 1, 3), (4, 1, 3), (5, 1, 3)], 6, 48, [.int .i64 0, .int .i64 0, .int .i64 0, .int .i64 0, .int .i64 0, .int .i64 0]⟩),
  (23, ⟨.struct [(0, 1, 3), (1, 1, 3), (2, 1, 3), (3, 1, 3), (4, 1, 3), (5, 1, 3)], 6, 48, [.int .i64 0, .int .i64 0, .int .i64 0, .int .i64 0, .int .i64 0, .int .i64 0]⟩),
  (26, ⟨.iface, 1, 16, [.nilI]⟩),
  (27, ⟨.iface, 1, 16, [.nilI]⟩),
  (31, ⟨.struct [(0, 1, 3), (1, 1, 3), (2, 1, 3), (3, 1, 3), (4, 1, 4)], 5, 40, [.int .i64 0, .int .i64 0, .int .i64 0, .int .i64 0, .bit false]⟩),
  (32, ⟨.struct [(0, 1, 3), (1, 1, 3), (2, 1, 3), (3, 1, 3), (4, 1, 4)], 5, 40, [.int .i64 0, .int .i64 0, .int .i64 0, .int .i64 0, .bit false]⟩),
  (33, ⟨.array 3 3, 3, 24, [.int .i64 0, .int .i64 0, .int .i64 0]⟩),
  (34, ⟨.array 6 4, 6, 6, [.bit false, .bit false, .bit false, .bit false, .bit false, .bit false]⟩),
  (35, ⟨.struct [(0, 3, 33), (3, 1, 3), (4, 6, 34)], 10, 40, [.int .i64 0, .int .i64 0, .int .i64 0, .int .i64 0, .bit false, .bit false, .bit false, .bit false, .bit false, .bit false]⟩),
  (36, ⟨.struct [(0, 3, 33), (3, 1, 3), (4, 6, 34)], 10, 40, [.int .i64 0, .int .i64 0, .int .i64 0, .int .i64 0, .bit false, .bit false, .bit false, .bit false, .bit false, .bit false]⟩),
  (41, ⟨.slice 36, 1, 24, [.nilS]⟩),
  (48, ⟨.array 2 3, 2, 16, [.int .i64 0, .int .i64 0]⟩),
  (49, ⟨.slice 53, 1, 24, [.nilS]⟩),
  (52, ⟨.struct [(0, 1, 3), (1, 1, 3)], 2, 16, [.int .i64 0, .int .i64 0]⟩),
  (53, ⟨.struct [(0, 1, 3), (1, 1, 3)], 2, 16, [.int .i64 0, .int .i64 0]⟩),
  (59, ⟨.slice 3, 1, 24, [.nilS]⟩),
  (61, ⟨.int .i64, 1, 8, [.int .i64 0]⟩),
  (72, ⟨.slice 4, 1, 24, [.nilS]⟩),
  (82, ⟨.int .u32, 1, 4, [.int .u32 0]⟩),
  (86, ⟨.prim, 1, 8, [.nilP]⟩)]
theorem tabsOK : (tabs.all fun p => tdOK Try.prog p.1 p.2) = true := by kernel_rfl
theorem mixed : Try.prog.follows .mixedOrders = true := by kernel_rfl
abbrev TE : Nat := 61
def E0 : Env := env TE tabs []
theorem own0 : ownKnob Try.prog.godebug = none := by kernel_rfl
theorem laidOut0 : Go.laidOutB Try.prog = true := by kernel_rfl
theorem tabE0 : TabOK Try.prog E0 := tabOK_of tabsOK

def clip (n lo hi : Int) : Int := min (max n lo) hi
def sClip : Sp
  | [.int .i64 n, .int .i64 lo, .int .i64 hi] => .ok (.int .i64 (clip n lo hi))
  | _ => .no
theorem ok30 : EntOK Try.prog TE 30 sClip := by
  refine ⟨callable_of Try.func30 (by kernel_rfl), fun args => ?_⟩
  unfold sClip
  split
  · refine fn_ofF tabsOK specOK_nil mixed Try.func30 (by kernel_rfl) ?_
    exact AVle.int rfl
  · trivial
def sClip2 : Sp
  | [.int .i64 n, .int .i64 lo, .int .i64 hi] => .ok (.int .i64 (max lo (min n hi)))
  | _ => .no
theorem ok18 : EntOK Try.prog TE 18 sClip2 := by
  refine ⟨callable_of Try.func18 (by kernel_rfl), fun args => ?_⟩
  unfold sClip2
  split
  · refine fn_ofF tabsOK specOK_nil mixed Try.func18 (by kernel_rfl) ?_
    exact AVle.int rfl
  · trivial
theorem ok33 : EntOK Try.prog TE 33 sClip2 := by
  refine ⟨callable_of Try.func33 (by kernel_rfl), fun args => ?_⟩
  unfold sClip2
  split
  · refine fn_ofF tabsOK specOK_nil mixed Try.func33 (by kernel_rfl) ?_
    exact AVle.int rfl
  · trivial
def outB (n lo hi : Int) : Bool := decide (n < lo) || decide (hi < n)
theorem outB_lt {n lo hi : Int} (h : decide (lo ≤ n) = false) : outB n lo hi = true := by
  rw [outB, decide_eq_true (Int.not_le.1 (of_decide_eq_false h))]; rfl
theorem outB_ge {n lo hi : Int} (h : decide (lo ≤ n) = true) : outB n lo hi = !decide (n ≤ hi) := by
  rw [outB, decide_eq_false (Int.not_lt.2 (of_decide_eq_true h)), Bool.false_or]
  by_cases e : n ≤ hi <;> simp [e] <;> omega
def sWithin : Sp
  | [.int .i64 n, .int .i64 lo, .int .i64 hi] => .ok (.bit (!outB n lo hi))
  | _ => .no
theorem ok28 : EntOK Try.prog TE 28 sWithin := by
  refine ⟨callable_of Try.func28 (by kernel_rfl), fun args => ?_⟩
  unfold sWithin
  split
  · refine fn_ofF tabsOK specOK_nil mixed Try.func28 (by kernel_rfl) ?_
    refine Brn.mk (fun h => ?_) (fun h => ?_)
    · refine AVle.bit ?_
      rw [outB_ge h, Bool.not_not]
    · refine AVle.bit ?_
      rw [outB_lt h]; rfl
  · trivial
theorem ok29 : EntOK Try.prog TE 29 sWithin := by
  refine ⟨callable_of Try.func29 (by kernel_rfl), fun args => ?_⟩
  unfold sWithin
  split
  · refine fn_ofF tabsOK specOK_nil mixed Try.func29 (by kernel_rfl) ?_
    refine Brn.mk (fun h => ?_) (fun h => ?_)
    · refine AVle.bit ?_
      rw [outB_ge h, Bool.not_not]
    · refine AVle.bit ?_
      rw [outB_lt h]; rfl
  · trivial
def sNum : Sp
  | [.err n] => .ok (.int .i64 n)
  | _ => .no
theorem okNum : EntOK Try.prog TE 13 sNum := by
  refine ⟨callable_of Try.func13 (by kernel_rfl), fun args => ?_⟩
  unfold sNum
  split
  · rename_i n
    refine fn_ofF tabsOK specOK_nil mixed Try.func13 (by kernel_rfl) ?_
    refine Brn.mk (fun h => ?_) (fun h => ?_)
    · refine AVle.int ?_
      simp at h; exact h.symm
    · refine Brn.mk (fun h2 => ?_) (fun h2 => ?_)
      · exact AVle.int rfl
      · simp_all
  · trivial
/-- The check of a configuration. -/
def tchk (cu lo hi re lt ht : Int) : Int :=
  if outB cu 0 2097152 = true ∨ outB lo 0 1048576 = true ∨ outB hi 0 1048576 = true ∨ outB re 0 64 = true ∨ outB lt 1 4096 = true ∨ outB ht 1 4096 = true then 3 else if hi ≤ lo then 26 else 0
def sTChk : Sp
  | [.agg [.int .i64 cu, .int .i64 lo, .int .i64 hi, .int .i64 re, .int .i64 lt, .int .i64 ht]] => .ok (.err (tchk cu lo hi re lt ht))
  | _ => .no
theorem ok14 : EntOK Try.prog TE 14 sTChk := by
  refine ⟨callable_of Try.func14 (by kernel_rfl), fun args => ?_⟩
  unfold sTChk
  split
  · rename_i cu lo hi re lt ht
    refine fn_ofF tabsOK (specOK_cons ok28 specOK_nil) mixed Try.func14 (by kernel_rfl) ?_
    have bad : (outB cu 0 2097152 = true ∨ outB lo 0 1048576 = true ∨ outB hi 0 1048576 = true ∨ outB re 0 64 = true ∨ outB lt 1 4096 = true ∨ outB ht 1 4096 = true) → 3 = tchk cu lo hi re lt ht := fun h => by rw [tchk, if_pos h]
    refine Brn.mk (fun h => Chk.mk (by decide) (AVle.err (bad (.inl (by simpa using h))))) (fun h1 => ?_)
    refine Brn.mk (fun h => Chk.mk (by decide) (AVle.err (bad (.inr (.inl (by simpa using h)))))) (fun h2 => ?_)
    refine Brn.mk (fun h => Chk.mk (by decide) (AVle.err (bad (.inr (.inr (.inl (by simpa using h))))))) (fun h3 => ?_)
    refine Brn.mk (fun h => Chk.mk (by decide) (AVle.err (bad (.inr (.inr (.inr (.inl (by simpa using h)))))))) (fun h4 => ?_)
    refine Brn.mk (fun h => Chk.mk (by decide) (AVle.err (bad (.inr (.inr (.inr (.inr (.inl (by simpa using h))))))))) (fun h5 => ?_)
    refine Brn.mk (fun h => Chk.mk (by decide) (AVle.err (bad (.inr (.inr (.inr (.inr (.inr (by simpa using h))))))))) (fun h6 => ?_)
    have good : tchk cu lo hi re lt ht = if hi ≤ lo then 26 else 0 := by
      rw [tchk, if_neg]
      simp only [Bool.not_not] at h1 h2 h3 h4 h5 h6
      simp [h1, h2, h3, h4, h5, h6]
    rw [good]
    refine Brn.mk (fun h => Chk.mk (by decide) (AVle.err ?_)) (fun h => AVle.nilErr ?_)
    · rw [if_pos (of_decide_eq_true h)]
    · rw [if_neg (of_decide_eq_false h)]
  · trivial
def sTChkR : Sp
  | [.agg [.int .i64 cu, .int .i64 lo, .int .i64 hi, .int .i64 re, .int .i64 lt, .int .i64 ht]] => .ok (.int .i64 (tchk cu lo hi re lt ht))
  | _ => .no
theorem ok15 : EntOK Try.prog TE 15 sTChkR := by
  refine ⟨callable_of Try.func15 (by kernel_rfl), fun args => ?_⟩
  unfold sTChkR
  split
  · rename_i cu lo hi re lt ht
    refine fn_ofF tabsOK (specOK_cons ok29 specOK_nil) mixed Try.func15 (by kernel_rfl) ?_
    have bad : (outB cu 0 2097152 = true ∨ outB lo 0 1048576 = true ∨ outB hi 0 1048576 = true ∨ outB re 0 64 = true ∨ outB lt 1 4096 = true ∨ outB ht 1 4096 = true) → 3 = tchk cu lo hi re lt ht := fun h => by rw [tchk, if_pos h]
    refine Brn.mk (fun h => AVle.int (bad (.inl (by simpa using h)))) (fun h1 => ?_)
    refine Brn.mk (fun h => AVle.int (bad (.inr (.inl (by simpa using h))))) (fun h2 => ?_)
    refine Brn.mk (fun h => AVle.int (bad (.inr (.inr (.inl (by simpa using h)))))) (fun h3 => ?_)
    refine Brn.mk (fun h => AVle.int (bad (.inr (.inr (.inr (.inl (by simpa using h))))))) (fun h4 => ?_)
    refine Brn.mk (fun h => AVle.int (bad (.inr (.inr (.inr (.inr (.inl (by simpa using h)))))))) (fun h5 => ?_)
    refine Brn.mk (fun h => AVle.int (bad (.inr (.inr (.inr (.inr (.inr (by simpa using h)))))))) (fun h6 => ?_)
    have good : tchk cu lo hi re lt ht = if hi ≤ lo then 26 else 0 := by
      rw [tchk, if_neg]
      simp only [Bool.not_not] at h1 h2 h3 h4 h5 h6
      simp [h1, h2, h3, h4, h5, h6]
    rw [good]
    refine Brn.mk (fun h => AVle.int ?_) (fun h => AVle.int ?_)
    · rw [if_pos (of_decide_eq_true h)]
    · rw [if_neg (of_decide_eq_false h)]
  · trivial
def cnt (n : Int) (b : Bool) (most : Int) : Int := if b = true then min (wr (n + 1)) most else 0
def sCnt : Sp
  | [.int .i64 n, .bit b, .int .i64 m] => .ok (.int .i64 (cnt n b m))
  | _ => .no
theorem ok31 : EntOK Try.prog TE 31 sCnt := by
  refine ⟨callable_of Try.func31 (by kernel_rfl), fun args => ?_⟩
  unfold sCnt
  split
  · refine fn_ofF tabsOK specOK_nil mixed Try.func31 (by kernel_rfl) ?_
    refine Brn.mk (fun h => AVle.int ?_) (fun h => AVle.int ?_)
    · rw [cnt, if_neg (by simpa using h)]
    · rw [cnt, if_pos (by simpa using h)]
  · trivial
/-- A current beyond the threshold. -/
def ovr (cu x : Int) : Bool := decide (cu < x) || decide (x < wr (0 - cu))
def sOvr1 : Sp
  | [.int .i64 x, .iref m g] => .pre (6 ≤ m ∧ g 0 = .int .i64 (asI (g 0))) (.bit (ovr (asI (g 0)) x))
  | _ => .no
theorem ok40 : EntOK Try.prog TE 40 sOvr1 := by
  refine ⟨callable_of Try.func40 (by kernel_rfl), fun args => ?_⟩
  unfold sOvr1
  split
  · rename_i x m g
    rintro ⟨hm, hg⟩
    generalize asI (g 0) = cu at hg
    refine FnOK.args ?_ (m := [.int .i64 x, .iref 6 fun k => nth [.int .i64 cu] k]) ⟨.refl, .iref hm fun j hj => ?_, trivial⟩
    · refine fn_ofF tabsOK specOK_nil mixed Try.func40 (by kernel_rfl) ?_
      refine Brn.mk (fun h => AVle.bit ?_) (fun h => AVle.bit ?_)
      · rw [ovr, h]; rfl
      · rw [ovr, h]; rfl
    · cases j with
      | zero => exact Le1.of_eq hg
      | succ j => exact Le1.bad
  · trivial
def sIdxF : Sp
  | [.sl s n f, .clo fid [] [.iref m g]] => .pre (IsI s n f ∧ n ≤ 1048576 ∧ fid = 40 ∧ 6 ≤ m ∧ g 0 = .int .i64 (asI (g 0))) (.int .i64 (idxF (fun i => ovr (asI (g 0)) (vI f i)) n 0))
  | _ => .no
theorem ok42 : EntOK Try.prog TE 42 sIdxF := by
  refine ⟨callable_of Try.func42 (by kernel_rfl), fun args => ?_⟩
  unfold sIdxF
  split
  · rename_i s n f fid m g
    rintro ⟨hf, hn, rfl, hm, hg⟩
    refine FnOK.args ?_ (m := [.sl 1 n fun i _ => .int .i64 (vI f i), .clo 40 [] [.iref m g]]) ⟨hf.le rfl, .refl, trivial⟩
    generalize vI f = h
    refine fn_ofF tabsOK (specOK_cons ok40 specOK_nil) mixed Try.func42 (by kernel_rfl) ?_
    generalize hr : idxF (fun i => ovr (asI (g 0)) (h i)) n 0 = r
    refine LoopOK.mk ⟨{ i : Nat // i ≤ n ∧ idxF (fun i => ovr (asI (g 0)) (h i)) (n - i) i = r }, fun i => mkSt [(0, .sl 1 n fun i _ => .int .i64 (h i)), (1, .clo 40 [] [.iref m g]), (7, .int .i64 n), (8, .int .i64 i.1)]
      [], fun i => n - i.1, ⟨⟨0, by omega, hr⟩, ?_⟩, ?_⟩
    · exact wk_of [] rfl ⟨⟨rfl, rfl⟩, ⟨rfl, rfl⟩, ⟨rfl, rfl⟩, ⟨rfl, rfl⟩, trivial⟩ trivial
    · rintro ⟨i, hi, hs⟩
      refine Brn.mk (fun q => ?_) (fun q => ?_)
      · have q : (i : Int) < n := of_decide_eq_true q
        have hb : (0 : Int) ≤ (i : Int) ∧ (i : Int) < (n : Int) := ⟨by omega, q⟩
        refine Chk.mk hb (Chk.mk ⟨hm, hg⟩ ?_)
        refine Brn.mk (fun q2 => AVle.int ?_) (fun q2 => ?_)
        · exact (idxF_hit (n := n) (i := i) (p := fun i => ovr (asI (g 0)) (h i)) (by omega) q2).symm.trans hs
        · refine ⟨⟨i + 1, by omega, (idxF_miss (n := n) (i := i) (p := fun i => ovr (asI (g 0)) (h i)) (by omega) q2).symm.trans hs⟩, by show n - (i + 1) < n - i; omega, ?_⟩
          exact wk_of [] rfl ⟨⟨rfl, rfl⟩, ⟨rfl, rfl⟩, ⟨rfl, rfl⟩, ⟨wrS (i := i) (by omega), rfl⟩, trivial⟩ trivial
      · have q : ¬ (i : Int) < n := of_decide_eq_false q
        rw [show n - i = 0 by omega, idxF] at hs
        exact AVle.int hs
  · trivial
def sCF : Sp
  | [.sl s n f, .clo fid [] [.iref m g]] => .pre (IsI s n f ∧ n ≤ 1048576 ∧ fid = 40 ∧ 6 ≤ m ∧ g 0 = .int .i64 (asI (g 0))) (.bit (anyP (fun i => ovr (asI (g 0)) (vI f i)) n 0))
  | _ => .no
theorem ok39 : EntOK Try.prog TE 39 sCF := by
  refine ⟨callable_of Try.func39 (by kernel_rfl), fun args => ?_⟩
  unfold sCF
  split
  · rename_i s n f fid m g
    intro hp
    refine fn_ofF tabsOK (specOK_cons ok42 specOK_nil) mixed Try.func39 (by kernel_rfl) ?_
    refine Chk.mk hp ?_
    exact AVle.bit (idxF_any ..)
  · trivial
def three (a b c : Int) (i : Nat) : Int := match i with | 0 => a | 1 => b | _ => c
def over3 (cu x0 x1 x2 : Int) : Bool := ovr cu x0 || (ovr cu x1 || (ovr cu x2 || false))
def sOver : Sp
  | [.agg [.int .i64 cu, .int .i64 _, .int .i64 _, .int .i64 _, .int .i64 _, .int .i64 _], .agg [.int .i64 x0, .int .i64 x1, .int .i64 x2, .int .i64 _, .bit _, .bit _, .bit _, .bit _, .bit _, .bit _]] => .ok (.bit (over3 cu x0 x1 x2))
  | _ => .no
theorem ok36 : EntOK Try.prog TE 36 sOver := by
  refine ⟨callable_of Try.func36 (by kernel_rfl), fun args => ?_⟩
  unfold sOver
  split
  · rename_i cu _ _ _ _ _ x0 x1 x2 _ _ _ _ _ _ _
    refine fn_ofF tabsOK (specOK_cons ok39 specOK_nil) mixed Try.func36 (by kernel_rfl) ?_
    refine Chk.mk ⟨isI_fin (three x0 x1 x2) (by kernel_rfl) ⟨⟨⟨trivial, by show _ = _; kernel_rfl⟩, by show _ = _; kernel_rfl⟩, by show _ = _; kernel_rfl⟩, by decide, rfl, Nat.le_refl _, by show _ = _; kernel_rfl⟩ ?_
    refine AVle.bit ?_
    kernel_rfl
  · trivial
def sIdxB : Sp
  | [.sl s n f, .bit b] => .pre (IsB s n f ∧ n ≤ 1048576) (.int .i64 (idxF (fun i => b == vB f i) n 0))
  | _ => .no
theorem ok43 : EntOK Try.prog TE 43 sIdxB := by
  refine ⟨callable_of Try.func43 (by kernel_rfl), fun args => ?_⟩
  unfold sIdxB
  split
  · rename_i s n f b
    rintro ⟨hf, hn⟩
    refine FnOK.args ?_ (m := [.sl 1 n fun i _ => .bit (vB f i), .bit b]) ⟨hf.le rfl, .refl, trivial⟩
    generalize vB f = h
    refine fn_ofF tabsOK specOK_nil mixed Try.func43 (by kernel_rfl) ?_
    generalize hr : idxF (fun i => b == h i) n 0 = r
    refine LoopOK.mk ⟨{ i : Nat // i ≤ n ∧ idxF (fun i => b == h i) (n - i) i = r }, fun i => mkSt [(0, .sl 1 n fun i _ => .bit (h i)), (1, .bit b), (7, .int .i64 n), (8, .int .i64 i.1)]
      [], fun i => n - i.1, ⟨⟨0, by omega, hr⟩, ?_⟩, ?_⟩
    · exact wk_of [] rfl ⟨⟨rfl, rfl⟩, ⟨rfl, rfl⟩, ⟨rfl, rfl⟩, ⟨rfl, rfl⟩, trivial⟩ trivial
    · rintro ⟨i, hi, hs⟩
      refine Brn.mk (fun q => ?_) (fun q => ?_)
      · have q : (i : Int) < n := of_decide_eq_true q
        have hb : (0 : Int) ≤ (i : Int) ∧ (i : Int) < (n : Int) := ⟨by omega, q⟩
        refine Chk.mk hb ?_
        refine Brn.mk (fun q2 => AVle.int ?_) (fun q2 => ?_)
        · exact (idxF_hit (n := n) (i := i) (p := fun i => b == h i) (by omega) q2).symm.trans hs
        · refine ⟨⟨i + 1, by omega, (idxF_miss (n := n) (i := i) (p := fun i => b == h i) (by omega) q2).symm.trans hs⟩, by show n - (i + 1) < n - i; omega, ?_⟩
          exact wk_of [] rfl ⟨⟨rfl, rfl⟩, ⟨rfl, rfl⟩, ⟨rfl, rfl⟩, ⟨wrS (i := i) (by omega), rfl⟩, trivial⟩ trivial
      · have q : ¬ (i : Int) < n := of_decide_eq_false q
        rw [show n - i = 0 by omega, idxF] at hs
        exact AVle.int hs
  · trivial
def sCB : Sp
  | [.sl s n f, .bit b] => .pre (IsB s n f ∧ n ≤ 1048576) (.bit (anyP (fun i => b == vB f i) n 0))
  | _ => .no
theorem ok41 : EntOK Try.prog TE 41 sCB := by
  refine ⟨callable_of Try.func41 (by kernel_rfl), fun args => ?_⟩
  unfold sCB
  split
  · intro hp
    refine fn_ofF tabsOK (specOK_cons ok43 specOK_nil) mixed Try.func41 (by kernel_rfl) ?_
    refine Chk.mk hp ?_
    exact AVle.bit (idxF_any ..)
  · trivial
def six (a b c d e f : Bool) (i : Nat) : Bool := match i with | 0 => a | 1 => b | 2 => c | 3 => d | 4 => e | _ => f
def any6 (a b c d e f : Bool) : Bool := a || (b || (c || (d || (e || f))))
def sDes : Sp
  | [.agg [.int .i64 _, .int .i64 _, .int .i64 _, .int .i64 _, .bit a, .bit b, .bit c, .bit d, .bit e, .bit f]] => .ok (.bit (any6 a b c d e f))
  | _ => .no
theorem ok37 : EntOK Try.prog TE 37 sDes := by
  refine ⟨callable_of Try.func37 (by kernel_rfl), fun args => ?_⟩
  unfold sDes
  split
  · rename_i _ _ _ _ a b c d e f
    refine fn_ofF tabsOK (specOK_cons ok41 specOK_nil) mixed Try.func37 (by kernel_rfl) ?_
    refine Chk.mk ⟨isB_fin (six a b c d e f) (by kernel_rfl) ⟨⟨⟨⟨⟨⟨trivial, by show _ = _; kernel_rfl⟩, by show _ = _; kernel_rfl⟩, by show _ = _; kernel_rfl⟩, by show _ = _; kernel_rfl⟩, by show _ = _; kernel_rfl⟩, by show _ = _; kernel_rfl⟩, by decide⟩ ?_
    refine AVle.bit ?_
    have key : ∀ a b c d e f : Bool, ((true == a) || ((true == b) || ((true == c) || ((true == d) || ((true == e) || ((true == f) || false)))))) = any6 a b c d e f := by decide
    exact key a b c d e f
  · trivial
end
end Go.Proofs.Ytalppnldnahmbaa.Img
