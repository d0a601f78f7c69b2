/- The tables; the protection's tick. Conditions: none. -/
import Derived.Test.YtbhbjmneglkgnaaAiArr
import Derived.Test.YtbhbjmneglkgnaaAiFrz
import Derived.Test.YtbhbjmneglkgnaaChecked
import Derived.ProofKit
namespace Go.Proofs.Ytbhbjmneglkgnaa.Img
open Go Go.Proofs.Ytbhbjmneglkgnaa.AI Go.Proofs
noncomputable section
set_option maxRecDepth 100000
def tabs : List (Nat × TD) := [
  (2, ⟨.int .i64, 1, 8, [.int .i64 0]⟩),
  (3, ⟨.int .i64, 1, 8, [.int .i64 0]⟩),
  (4, ⟨.bool, 1, 1, [.bit false]⟩),
  (5, ⟨.int .u8, 1, 1, [.int .u8 0]⟩),
  (9, ⟨.prim, 1, 16, [.bad]⟩),
  (12, ⟨.int .u64, 1, 8, [.int .u64 0]⟩),
  (13, ⟨.struct [(0, 1, 9), (1, 1, 12)], 2, 24, [.bad, .int .u64 0]⟩),
  (20, ⟨.iface, 1, 16, [.nilI]⟩),
  (21, ⟨.int .i32, 1, 4, [.int .i32 0]⟩),
  (22, ⟨.slice 33, 1, 24, [.nilS]⟩),
  (25, ⟨.iface, 1, 16, [.nilI]⟩),
  (26, ⟨.iface, 1, 16, [.nilI]⟩),
  (29, ⟨.slice 3, 1, 24, [.nilS]⟩),
  (32, ⟨.struct [(0, 1, 3), (1, 1, 3), (2, 1, 3), (3, 1, 3), (4, 1, 3)], 5, 40, [.int .i64 0, .int .i64 0, .int .i64 0, .int .i64 0, .int .i64 0]⟩),
  (33, ⟨.struct [(0, 1, 3), (1, 1, 3), (2, 1, 3), (3, 1, 3), (4, 1, 3)], 5, 40, [.int .i64 0, .int .i64 0, .int .i64 0, .int .i64 0, .int .i64 0]⟩),
  (34, ⟨.slice 38, 1, 24, [.nilS]⟩),
  (37, ⟨.struct [(0, 1, 3), (1, 1, 3), (2, 1, 3), (3, 1, 3)], 4, 32, [.int .i64 0, .int .i64 0, .int .i64 0, .int .i64 0]⟩),
  (38, ⟨.struct [(0, 1, 3), (1, 1, 3), (2, 1, 3), (3, 1, 3)], 4, 32, [.int .i64 0, .int .i64 0, .int .i64 0, .int .i64 0]⟩),
  (40, ⟨.struct [(0, 1, 3), (1, 1, 3), (2, 1, 3)], 3, 24, [.int .i64 0, .int .i64 0, .int .i64 0]⟩),
  (41, ⟨.struct [(0, 1, 3), (1, 1, 3), (2, 1, 3)], 3, 24, [.int .i64 0, .int .i64 0, .int .i64 0]⟩),
  (43, ⟨.array 2 3, 2, 16, [.int .i64 0, .int .i64 0]⟩),
  (44, ⟨.array 2 4, 2, 2, [.bit false, .bit false]⟩),
  (45, ⟨.struct [(0, 1, 3), (1, 1, 3), (2, 2, 43), (4, 2, 44), (6, 1, 4)], 7, 40, [.int .i64 0, .int .i64 0, .int .i64 0, .int .i64 0, .bit false, .bit false, .bit false]⟩),
  (46, ⟨.struct [(0, 1, 3), (1, 1, 3), (2, 2, 43), (4, 2, 44), (6, 1, 4)], 7, 40, [.int .i64 0, .int .i64 0, .int .i64 0, .int .i64 0, .bit false, .bit false, .bit false]⟩),
  (49, ⟨.struct [(0, 2, 43), (2, 1, 4)], 3, 24, [.int .i64 0, .int .i64 0, .bit false]⟩),
  (50, ⟨.struct [(0, 2, 43), (2, 1, 4)], 3, 24, [.int .i64 0, .int .i64 0, .bit false]⟩),
  (52, ⟨.struct [(0, 2, 44), (2, 2, 44)], 4, 4, [.bit false, .bit false, .bit false, .bit false]⟩),
  (53, ⟨.struct [(0, 2, 44), (2, 2, 44)], 4, 4, [.bit false, .bit false, .bit false, .bit false]⟩),
  (56, ⟨.array 6 4, 6, 6, [.bit false, .bit false, .bit false, .bit false, .bit false, .bit false]⟩),
  (57, ⟨.slice 101, 1, 24, [.nilS]⟩),
  (58, ⟨.struct [(0, 1, 3), (1, 6, 56), (7, 1, 57)], 8, 40, [.int .i64 0, .bit false, .bit false, .bit false, .bit false, .bit false, .bit false, .nilS]⟩),
  (59, ⟨.struct [(0, 1, 3), (1, 6, 56), (7, 1, 57)], 8, 40, [.int .i64 0, .bit false, .bit false, .bit false, .bit false, .bit false, .bit false, .nilS]⟩),
  (60, ⟨.struct [(0, 1, 3), (1, 1, 3)], 2, 16, [.int .i64 0, .int .i64 0]⟩),
  (61, ⟨.struct [(0, 1, 3), (1, 1, 3)], 2, 16, [.int .i64 0, .int .i64 0]⟩),
  (62, ⟨.array 3 61, 6, 48, [.int .i64 0, .int .i64 0, .int .i64 0, .int .i64 0, .int .i64 0, .int .i64 0]⟩),
  (64, ⟨.array 3 5, 3, 3, [.int .u8 0, .int .u8 0, .int .u8 0]⟩),
  (65, ⟨.int .i8, 1, 1, [.int .i8 0]⟩),
  (66, ⟨.struct [(0, 3, 64), (3, 3, 64), (6, 1, 65), (7, 1, 65), (8, 1, 5)], 9, 9, [.int .u8 0, .int .u8 0, .int .u8 0, .int .u8 0, .int .u8 0, .int .u8 0, .int .i8 0, .int .i8 0, .int .u8 0]⟩),
  (67, ⟨.struct [(0, 3, 64), (3, 3, 64), (6, 1, 65), (7, 1, 65), (8, 1, 5)], 9, 9, [.int .u8 0, .int .u8 0, .int .u8 0, .int .u8 0, .int .u8 0, .int .u8 0, .int .i8 0, .int .i8 0, .int .u8 0]⟩),
  (72, ⟨.struct [(0, 1, 3), (1, 1, 3), (2, 1, 3), (3, 1, 3), (4, 1, 4)], 5, 40, [.int .i64 0, .int .i64 0, .int .i64 0, .int .i64 0, .bit false]⟩),
  (73, ⟨.struct [(0, 1, 3), (1, 1, 3), (2, 1, 3), (3, 1, 3), (4, 1, 4)], 5, 40, [.int .i64 0, .int .i64 0, .int .i64 0, .int .i64 0, .bit false]⟩),
  (76, ⟨.struct [(0, 1, 3), (1, 1, 3), (2, 1, 3), (3, 1, 3), (4, 1, 3), (5, 1, 3)], 6, 48, [.int .i64 0, .int .i64 0, .int .i64 0, .int .i64 0, .int .i64 0, .int .i64 0]⟩),
  (77, ⟨.struct [(0, 1, 3), (1, 1, 3), (2, 1, 3), (3, 1, 3), (4, 1, 3), (5, 1, 3)], 6, 48, [.int .i64 0, .int .i64 0, .int .i64 0, .int .i64 0, .int .i64 0, .int .i64 0]⟩),
  (78, ⟨.array 3 3, 3, 24, [.int .i64 0, .int .i64 0, .int .i64 0]⟩),
  (79, ⟨.struct [(0, 3, 78), (3, 1, 3), (4, 6, 56)], 10, 40, [.int .i64 0, .int .i64 0, .int .i64 0, .int .i64 0, .bit false, .bit false, .bit false, .bit false, .bit false, .bit false]⟩),
  (80, ⟨.struct [(0, 3, 78), (3, 1, 3), (4, 6, 56)], 10, 40, [.int .i64 0, .int .i64 0, .int .i64 0, .int .i64 0, .bit false, .bit false, .bit false, .bit false, .bit false, .bit false]⟩),
  (90, ⟨.int .i64, 1, 8, [.int .i64 0]⟩),
  (95, ⟨.struct [(0, 1, 3), (1, 1, 3)], 2, 16, [.int .i64 0, .int .i64 0]⟩),
  (96, ⟨.struct [(0, 1, 3), (1, 1, 3)], 2, 16, [.int .i64 0, .int .i64 0]⟩),
  (97, ⟨.array 3 96, 6, 48, [.int .i64 0, .int .i64 0, .int .i64 0, .int .i64 0, .int .i64 0, .int .i64 0]⟩),
  (100, ⟨.struct [(0, 1, 3), (1, 1, 3), (2, 1, 4)], 3, 24, [.int .i64 0, .int .i64 0, .bit false]⟩),
  (101, ⟨.struct [(0, 1, 3), (1, 1, 3), (2, 1, 4)], 3, 24, [.int .i64 0, .int .i64 0, .bit false]⟩),
  (107, ⟨.slice 109, 1, 24, [.nilS]⟩),
  (108, ⟨.struct [(0, 5, 33), (5, 1, 29), (6, 1, 3)], 7, 72, [.int .i64 0, .int .i64 0, .int .i64 0, .int .i64 0, .int .i64 0, .nilS, .int .i64 0]⟩),
  (109, ⟨.struct [(0, 5, 33), (5, 1, 29), (6, 1, 3)], 7, 72, [.int .i64 0, .int .i64 0, .int .i64 0, .int .i64 0, .int .i64 0, .nilS, .int .i64 0]⟩),
  (110, ⟨.prim, 1, 8, [.nilP]⟩),
  (112, ⟨.prim, 1, 8, [.nilP]⟩),
  (115, ⟨.prim, 1, 8, [.nilP]⟩),
  (124, ⟨.slice 4, 1, 24, [.nilS]⟩),
  (134, ⟨.int .u32, 1, 4, [.int .u32 0]⟩),
  (138, ⟨.prim, 1, 8, [.nilP]⟩)]
theorem tabsOK : (tabs.all fun p => tdOK Try.prog p.1 p.2) = true := by kernel_rfl
theorem mixed : Try.prog.follows .mixedOrders = true := by kernel_rfl
abbrev TE : Nat := 90
def E0 : Env := env TE tabs []
theorem own0 : ownKnob Try.prog.godebug = none := by kernel_rfl
theorem laidOut0 : Go.laidOutB Try.prog = true := by kernel_rfl
theorem tabE0 : TabOK Try.prog E0 := tabOK_of tabsOK

def clip (n lo hi : Int) : Int := min (max n lo) hi
def sClip : Sp
  | [.int .i64 n, .int .i64 lo, .int .i64 hi] => .ok (.int .i64 (clip n lo hi))
  | _ => .no
theorem ok34 : EntOK Try.prog TE 34 sClip := by
  refine ⟨callable_of Try.func34 (by kernel_rfl), fun args => ?_⟩
  unfold sClip
  split
  · refine fn_ofF tabsOK specOK_nil mixed Try.func34 (by kernel_rfl) ?_
    exact AVle.int rfl
  · trivial
def outB (n lo hi : Int) : Bool := decide (n < lo) || decide (hi < n)
theorem outB_lt {n lo hi : Int} (h : decide (lo ≤ n) = false) : outB n lo hi = true := by
  rw [outB, decide_eq_true (Int.not_le.1 (of_decide_eq_false h))]; rfl
theorem outB_ge {n lo hi : Int} (h : decide (lo ≤ n) = true) : outB n lo hi = !decide (n ≤ hi) := by
  rw [outB, decide_eq_false (Int.not_lt.2 (of_decide_eq_true h)), Bool.false_or]
  by_cases e : n ≤ hi <;> simp [e] <;> omega
def sWi : Sp
  | [.int .i64 n, .int .i64 lo, .int .i64 hi] => .ok (.bit (!outB n lo hi))
  | _ => .no
theorem ok45 : EntOK Try.prog TE 45 sWi := by
  refine ⟨callable_of Try.func45 (by kernel_rfl), fun args => ?_⟩
  unfold sWi
  split
  · refine fn_ofF tabsOK specOK_nil mixed Try.func45 (by kernel_rfl) ?_
    refine Brn.mk (fun h => ?_) (fun h => ?_)
    · refine AVle.bit ?_
      rw [outB_ge h, Bool.not_not]
    · refine AVle.bit ?_
      rw [outB_lt h]; rfl
  · trivial
def tchk (cu lo hi re lt ht : Int) : Int :=
  if outB cu 0 2097152 = true ∨ outB lo 0 1048576 = true ∨ outB hi 0 1048576 = true ∨ outB re 0 64 = true ∨ outB lt 1 4096 = true ∨ outB ht 1 4096 = true then 3 else if hi ≤ lo then 26 else 0
def sTChk : Sp
  | [.agg [.int .i64 cu, .int .i64 lo, .int .i64 hi, .int .i64 re, .int .i64 lt, .int .i64 ht]] => .ok (.err (tchk cu lo hi re lt ht))
  | _ => .no
theorem ok33 : EntOK Try.prog TE 33 sTChk := by
  refine ⟨callable_of Try.func33 (by kernel_rfl), fun args => ?_⟩
  unfold sTChk
  split
  · rename_i cu lo hi re lt ht
    refine fn_ofF tabsOK (specOK_cons ok45 specOK_nil) mixed Try.func33 (by kernel_rfl) ?_
    have bad : (outB cu 0 2097152 = true ∨ outB lo 0 1048576 = true ∨ outB hi 0 1048576 = true ∨ outB re 0 64 = true ∨ outB lt 1 4096 = true ∨ outB ht 1 4096 = true) → 3 = tchk cu lo hi re lt ht := fun h => by rw [tchk, if_pos h]
    refine Brn.mk (fun h => Chk.mk (by decide) (AVle.err (bad (.inl (by simpa using h))))) (fun h1 => ?_)
    refine Brn.mk (fun h => Chk.mk (by decide) (AVle.err (bad (.inr (.inl (by simpa using h)))))) (fun h2 => ?_)
    refine Brn.mk (fun h => Chk.mk (by decide) (AVle.err (bad (.inr (.inr (.inl (by simpa using h))))))) (fun h3 => ?_)
    refine Brn.mk (fun h => Chk.mk (by decide) (AVle.err (bad (.inr (.inr (.inr (.inl (by simpa using h)))))))) (fun h4 => ?_)
    refine Brn.mk (fun h => Chk.mk (by decide) (AVle.err (bad (.inr (.inr (.inr (.inr (.inl (by simpa using h))))))))) (fun h5 => ?_)
    refine Brn.mk (fun h => Chk.mk (by decide) (AVle.err (bad (.inr (.inr (.inr (.inr (.inr (by simpa using h))))))))) (fun h6 => ?_)
    have good : tchk cu lo hi re lt ht = if hi ≤ lo then 26 else 0 := by
      rw [tchk, if_neg]
      simp only [Bool.not_not] at h1 h2 h3 h4 h5 h6
      simp [h1, h2, h3, h4, h5, h6]
    rw [good]
    refine Brn.mk (fun h => Chk.mk (by decide) (AVle.err ?_)) (fun h => AVle.nilErr ?_)
    · rw [if_pos (of_decide_eq_true h)]
    · rw [if_neg (of_decide_eq_false h)]
  · trivial
def cnt (n : Int) (b : Bool) (most : Int) : Int := if b = true then min (wr (n + 1)) most else 0
def sCnt : Sp
  | [.int .i64 n, .bit b, .int .i64 m] => .ok (.int .i64 (cnt n b m))
  | _ => .no
theorem ok35 : EntOK Try.prog TE 35 sCnt := by
  refine ⟨callable_of Try.func35 (by kernel_rfl), fun args => ?_⟩
  unfold sCnt
  split
  · refine fn_ofF tabsOK specOK_nil mixed Try.func35 (by kernel_rfl) ?_
    refine Brn.mk (fun h => AVle.int ?_) (fun h => AVle.int ?_)
    · rw [cnt, if_neg (by simpa using h)]
    · rw [cnt, if_pos (by simpa using h)]
  · trivial
/-- A current beyond the threshold. -/
def ovr (cu x : Int) : Bool := decide (cu < x) || decide (x < wr (0 - cu))
def sOvr1 : Sp
  | [.int .i64 x, .iref m g] => .pre (6 ≤ m ∧ g 0 = .int .i64 (asI (g 0))) (.bit (ovr (asI (g 0)) x))
  | _ => .no
theorem ok50 : EntOK Try.prog TE 50 sOvr1 := by
  refine ⟨callable_of Try.func50 (by kernel_rfl), fun args => ?_⟩
  unfold sOvr1
  split
  · rename_i x m g
    rintro ⟨hm, hg⟩
    generalize asI (g 0) = cu at hg
    refine FnOK.args ?_ (m := [.int .i64 x, .iref 6 fun k => nth [.int .i64 cu] k]) ⟨.refl, .iref hm fun j hj => ?_, trivial⟩
    · refine fn_ofF tabsOK specOK_nil mixed Try.func50 (by kernel_rfl) ?_
      refine Brn.mk (fun h => AVle.bit ?_) (fun h => AVle.bit ?_)
      · rw [ovr, h]; rfl
      · rw [ovr, h]; rfl
    · cases j with
      | zero => exact Le1.of_eq hg
      | succ j => exact Le1.bad
  · trivial
def sIdxF : Sp
  | [.sl s n f, .clo fid [] [.iref m g]] => .pre (IsI s n f ∧ n ≤ 1048576 ∧ fid = 50 ∧ 6 ≤ m ∧ g 0 = .int .i64 (asI (g 0))) (.int .i64 (idxF (fun i => ovr (asI (g 0)) (vI f i)) n 0))
  | _ => .no
theorem ok52 : EntOK Try.prog TE 52 sIdxF := by
  refine ⟨callable_of Try.func52 (by kernel_rfl), fun args => ?_⟩
  unfold sIdxF
  split
  · rename_i s n f fid m g
    rintro ⟨hf, hn, rfl, hm, hg⟩
    refine FnOK.args ?_ (m := [.sl 1 n fun i _ => .int .i64 (vI f i), .clo 50 [] [.iref m g]]) ⟨hf.le rfl, .refl, trivial⟩
    generalize vI f = h
    refine fn_ofF tabsOK (specOK_cons ok50 specOK_nil) mixed Try.func52 (by kernel_rfl) ?_
    generalize hr : idxF (fun i => ovr (asI (g 0)) (h i)) n 0 = r
    refine LoopOK.mk ⟨{ i : Nat // i ≤ n ∧ idxF (fun i => ovr (asI (g 0)) (h i)) (n - i) i = r }, fun i => mkSt [(0, .sl 1 n fun i _ => .int .i64 (h i)), (1, .clo 50 [] [.iref m g]), (7, .int .i64 n), (8, .int .i64 i.1)]
      [], fun i => n - i.1, ⟨⟨0, by omega, hr⟩, ?_⟩, ?_⟩
    · exact wk_of [] rfl ⟨⟨rfl, rfl⟩, ⟨rfl, rfl⟩, ⟨rfl, rfl⟩, ⟨rfl, rfl⟩, trivial⟩ trivial
    · rintro ⟨i, hi, hs⟩
      refine Brn.mk (fun q => ?_) (fun q => ?_)
      · have q : (i : Int) < n := of_decide_eq_true q
        have hb : (0 : Int) ≤ (i : Int) ∧ (i : Int) < (n : Int) := ⟨by omega, q⟩
        refine Chk.mk hb (Chk.mk ⟨hm, hg⟩ ?_)
        refine Brn.mk (fun q2 => AVle.int ?_) (fun q2 => ?_)
        · exact (idxF_hit (n := n) (i := i) (p := fun i => ovr (asI (g 0)) (h i)) (by omega) q2).symm.trans hs
        · refine ⟨⟨i + 1, by omega, (idxF_miss (n := n) (i := i) (p := fun i => ovr (asI (g 0)) (h i)) (by omega) q2).symm.trans hs⟩, by show n - (i + 1) < n - i; omega, ?_⟩
          exact wk_of [] rfl ⟨⟨rfl, rfl⟩, ⟨rfl, rfl⟩, ⟨rfl, rfl⟩, ⟨wrS (i := i) (by omega), rfl⟩, trivial⟩ trivial
      · have q : ¬ (i : Int) < n := of_decide_eq_false q
        rw [show n - i = 0 by omega, idxF] at hs
        exact AVle.int hs
  · trivial
def sCF : Sp
  | [.sl s n f, .clo fid [] [.iref m g]] => .pre (IsI s n f ∧ n ≤ 1048576 ∧ fid = 50 ∧ 6 ≤ m ∧ g 0 = .int .i64 (asI (g 0))) (.bit (anyP (fun i => ovr (asI (g 0)) (vI f i)) n 0))
  | _ => .no
theorem ok49 : EntOK Try.prog TE 49 sCF := by
  refine ⟨callable_of Try.func49 (by kernel_rfl), fun args => ?_⟩
  unfold sCF
  split
  · rename_i s n f fid m g
    intro hp
    refine fn_ofF tabsOK (specOK_cons ok52 specOK_nil) mixed Try.func49 (by kernel_rfl) ?_
    refine Chk.mk hp ?_
    exact AVle.bit (idxF_any ..)
  · trivial
def three (a b c : Int) (i : Nat) : Int := match i with | 0 => a | 1 => b | _ => c
def over3 (cu x0 x1 x2 : Int) : Bool := ovr cu x0 || (ovr cu x1 || (ovr cu x2 || false))
def sOver : Sp
  | [.agg [.int .i64 cu, .int .i64 _, .int .i64 _, .int .i64 _, .int .i64 _, .int .i64 _], .agg [.int .i64 x0, .int .i64 x1, .int .i64 x2, .int .i64 _, .bit _, .bit _, .bit _, .bit _, .bit _, .bit _]] => .ok (.bit (over3 cu x0 x1 x2))
  | _ => .no
theorem ok46 : EntOK Try.prog TE 46 sOver := by
  refine ⟨callable_of Try.func46 (by kernel_rfl), fun args => ?_⟩
  unfold sOver
  split
  · rename_i cu _ _ _ _ _ x0 x1 x2 _ _ _ _ _ _ _
    refine fn_ofF tabsOK (specOK_cons ok49 specOK_nil) mixed Try.func46 (by kernel_rfl) ?_
    refine Chk.mk ⟨isI_fin (three x0 x1 x2) (by kernel_rfl) ⟨⟨⟨trivial, by show _ = _; kernel_rfl⟩, by show _ = _; kernel_rfl⟩, by show _ = _; kernel_rfl⟩, by decide, rfl, Nat.le_refl _, by show _ = _; kernel_rfl⟩ ?_
    refine AVle.bit ?_
    kernel_rfl
  · trivial
def sIdxB : Sp
  | [.sl s n f, .bit b] => .pre (IsB s n f ∧ n ≤ 1048576) (.int .i64 (idxF (fun i => b == vB f i) n 0))
  | _ => .no
theorem ok53 : EntOK Try.prog TE 53 sIdxB := by
  refine ⟨callable_of Try.func53 (by kernel_rfl), fun args => ?_⟩
  unfold sIdxB
  split
  · rename_i s n f b
    rintro ⟨hf, hn⟩
    refine FnOK.args ?_ (m := [.sl 1 n fun i _ => .bit (vB f i), .bit b]) ⟨hf.le rfl, .refl, trivial⟩
    generalize vB f = h
    refine fn_ofF tabsOK specOK_nil mixed Try.func53 (by kernel_rfl) ?_
    generalize hr : idxF (fun i => b == h i) n 0 = r
    refine LoopOK.mk ⟨{ i : Nat // i ≤ n ∧ idxF (fun i => b == h i) (n - i) i = r }, fun i => mkSt [(0, .sl 1 n fun i _ => .bit (h i)), (1, .bit b), (7, .int .i64 n), (8, .int .i64 i.1)]
      [], fun i => n - i.1, ⟨⟨0, by omega, hr⟩, ?_⟩, ?_⟩
    · exact wk_of [] rfl ⟨⟨rfl, rfl⟩, ⟨rfl, rfl⟩, ⟨rfl, rfl⟩, ⟨rfl, rfl⟩, trivial⟩ trivial
    · rintro ⟨i, hi, hs⟩
      refine Brn.mk (fun q => ?_) (fun q => ?_)
      · have q : (i : Int) < n := of_decide_eq_true q
        have hb : (0 : Int) ≤ (i : Int) ∧ (i : Int) < (n : Int) := ⟨by omega, q⟩
        refine Chk.mk hb ?_
        refine Brn.mk (fun q2 => AVle.int ?_) (fun q2 => ?_)
        · exact (idxF_hit (n := n) (i := i) (p := fun i => b == h i) (by omega) q2).symm.trans hs
        · refine ⟨⟨i + 1, by omega, (idxF_miss (n := n) (i := i) (p := fun i => b == h i) (by omega) q2).symm.trans hs⟩, by show n - (i + 1) < n - i; omega, ?_⟩
          exact wk_of [] rfl ⟨⟨rfl, rfl⟩, ⟨rfl, rfl⟩, ⟨rfl, rfl⟩, ⟨wrS (i := i) (by omega), rfl⟩, trivial⟩ trivial
      · have q : ¬ (i : Int) < n := of_decide_eq_false q
        rw [show n - i = 0 by omega, idxF] at hs
        exact AVle.int hs
  · trivial
def sCB : Sp
  | [.sl s n f, .bit b] => .pre (IsB s n f ∧ n ≤ 1048576) (.bit (anyP (fun i => b == vB f i) n 0))
  | _ => .no
theorem ok51 : EntOK Try.prog TE 51 sCB := by
  refine ⟨callable_of Try.func51 (by kernel_rfl), fun args => ?_⟩
  unfold sCB
  split
  · intro hp
    refine fn_ofF tabsOK (specOK_cons ok53 specOK_nil) mixed Try.func51 (by kernel_rfl) ?_
    refine Chk.mk hp ?_
    exact AVle.bit (idxF_any ..)
  · trivial
def six (a b c d e f : Bool) (i : Nat) : Bool := match i with | 0 => a | 1 => b | 2 => c | 3 => d | 4 => e | _ => f
def any6 (a b c d e f : Bool) : Bool := a || (b || (c || (d || (e || f))))
def sDes : Sp
  | [.agg [.int .i64 _, .int .i64 _, .int .i64 _, .int .i64 _, .bit a, .bit b, .bit c, .bit d, .bit e, .bit f]] => .ok (.bit (any6 a b c d e f))
  | _ => .no
theorem ok47 : EntOK Try.prog TE 47 sDes := by
  refine ⟨callable_of Try.func47 (by kernel_rfl), fun args => ?_⟩
  unfold sDes
  split
  · rename_i _ _ _ _ a b c d e f
    refine fn_ofF tabsOK (specOK_cons ok51 specOK_nil) mixed Try.func47 (by kernel_rfl) ?_
    refine Chk.mk ⟨isB_fin (six a b c d e f) (by kernel_rfl) ⟨⟨⟨⟨⟨⟨trivial, by show _ = _; kernel_rfl⟩, by show _ = _; kernel_rfl⟩, by show _ = _; kernel_rfl⟩, by show _ = _; kernel_rfl⟩, by show _ = _; kernel_rfl⟩, by show _ = _; kernel_rfl⟩, by decide⟩ ?_
    refine AVle.bit ?_
    have key : ∀ a b c d e f : Bool, ((true == a) || ((true == b) || ((true == c) || ((true == d) || ((true == e) || ((true == f) || false)))))) = any6 a b c d e f := by decide
    exact key a b c d e f
  · trivial
def tcause (ov ds : Bool) (c d lt ht : Int) : Int := if ov = true then 1 else if ds = true then 2 else if c = lt then 3 else if d = ht then 4 else 0
def sCause : Sp
  | [.agg [.int .i64 cu, .int .i64 _, .int .i64 _, .int .i64 _, .int .i64 lt, .int .i64 ht], .agg [.int .i64 _, .int .i64 _, .int .i64 c, .int .i64 d, .bit _], .agg [.int .i64 x0, .int .i64 x1, .int .i64 x2, .int .i64 _, .bit d0, .bit d1, .bit d2, .bit d3, .bit d4, .bit d5]] =>
    .ok (.int .i64 (tcause (over3 cu x0 x1 x2) (any6 d0 d1 d2 d3 d4 d5) c d lt ht))
  | _ => .no
theorem ok36 : EntOK Try.prog TE 36 sCause := by
  refine ⟨callable_of Try.func36 (by kernel_rfl), fun args => ?_⟩
  unfold sCause
  split
  · refine fn_ofF tabsOK (specOK_cons ok46 (specOK_cons ok47 specOK_nil)) mixed Try.func36 (by kernel_rfl) ?_
    refine Brn.mk (fun h => AVle.int ?_) (fun h1 => ?_)
    · rw [tcause, if_pos h]
    refine Brn.mk (fun h => AVle.int ?_) (fun h2 => ?_)
    · rw [tcause, if_neg (by rw [h1]; decide), if_pos h]
    refine Brn.mk (fun h => AVle.int ?_) (fun h3 => ?_)
    · rw [tcause, if_neg (by rw [h1]; decide), if_neg (by rw [h2]; decide), if_pos (of_decide_eq_true h)]
    refine Brn.mk (fun h => AVle.int ?_) (fun h4 => AVle.int ?_)
    · rw [tcause, if_neg (by rw [h1]; decide), if_neg (by rw [h2]; decide), if_neg (of_decide_eq_false h3), if_pos (of_decide_eq_true h)]
    · rw [tcause, if_neg (by rw [h1]; decide), if_neg (by rw [h2]; decide), if_neg (of_decide_eq_false h3), if_neg (of_decide_eq_false h4)]
  · trivial
/-- A state. -/
structure TS where
  a : Int
  b : Int
  c : Int
  d : Int
  o : Bool
  deriving DecidableEq
def TS.l (s : TS) : List AV := [.int .i64 s.a, .int .i64 s.b, .int .i64 s.c, .int .i64 s.d, .bit s.o]
def TS.zero : TS := ⟨0, 0, 0, 0, false⟩
/-- A tick with the ranges of the state taken. 'q': is the current over; 'ds': a desaturation. -/
def tstep1 (re lt ht : Int) (s : TS) (low high q ds : Bool) : TS :=
  if s.o = true then s else
    if ¬ s.a = 0 then ⟨s.a, max (wr (s.b - 1)) 0, cnt s.c low lt, cnt s.d high ht, decide (max (wr (s.b - 1)) 0 = 0)⟩
    else if ¬ tcause q ds (cnt s.c low lt) (cnt s.d high ht) lt ht = 0 then ⟨tcause q ds (cnt s.c low lt) (cnt s.d high ht) lt ht, re, cnt s.c low lt, cnt s.d high ht, decide (re = 0)⟩
    else ⟨0, s.b, cnt s.c low lt, cnt s.d high ht, false⟩
def tclip (lt ht : Int) (s : TS) : TS := ⟨clip s.a 0 4, clip s.b 0 64, clip s.c 0 lt, clip s.d 0 ht, s.o⟩
def tstep (cu lo hi re lt ht : Int) (s : TS) (x0 x1 x2 l : Int) (ds : Bool) : TS :=
  tstep1 re lt ht (tclip lt ht s) (decide (l < lo)) (decide (hi < l)) (over3 cu x0 x1 x2) ds
def okT (e : Int) (s : TS) : TS := if e = 0 then s else .zero
def sStep : Sp
  | [.agg [.int .i64 cu, .int .i64 lo, .int .i64 hi, .int .i64 re, .int .i64 lt, .int .i64 ht], .agg [.int .i64 a, .int .i64 b, .int .i64 c, .int .i64 d, .bit o], .agg [.int .i64 x0, .int .i64 x1, .int .i64 x2, .int .i64 l, .bit d0, .bit d1, .bit d2, .bit d3, .bit d4, .bit d5]] =>
    .ok (.tup [.agg (okT (tchk cu lo hi re lt ht) (tstep cu lo hi re lt ht ⟨a, b, c, d, o⟩ x0 x1 x2 l (any6 d0 d1 d2 d3 d4 d5))).l, .err (tchk cu lo hi re lt ht)])
  | _ => .no
set_option maxHeartbeats 1000000 in
theorem ok18 : EntOK Try.prog TE 18 sStep := by
  refine ⟨callable_of Try.func18 (by kernel_rfl), fun args => ?_⟩
  unfold sStep
  split
  · rename_i cu lo hi re lt ht a b c d o x0 x1 x2 l d0 d1 d2 d3 d4 d5
    refine fn_ofF tabsOK (specOK_cons ok33 (specOK_cons ok34 (specOK_cons ok35 (specOK_cons ok36 specOK_nil)))) mixed Try.func18 (by kernel_rfl) ?_
    refine Brn.mk (fun h1 => ?_) (fun h1 => ?_)
    · have h1 : ¬ tchk cu lo hi re lt ht = 0 := ndT h1
      refine AVle.tup2 (.agg ?_) (.err rfl)
      rw [okT, if_neg h1]; rfl
    have h1 : tchk cu lo hi re lt ht = 0 := ndF h1
    have fin : ∀ s : TS, tstep cu lo hi re lt ht ⟨a, b, c, d, o⟩ x0 x1 x2 l (any6 d0 d1 d2 d3 d4 d5) = s → (okT (tchk cu lo hi re lt ht) (tstep cu lo hi re lt ht ⟨a, b, c, d, o⟩ x0 x1 x2 l (any6 d0 d1 d2 d3 d4 d5))) = s := fun s h => by rw [okT, if_pos h1, h]
    refine Chk.mk (by kernel_rfl) (Chk.mk (by kernel_rfl) ?_)
    refine Brn.mk (fun h2 => ?_) (fun h2 => ?_)
    · refine AVle.tup2 (.agg ?_) (.nilErr h1)
      rw [fin ⟨clip a 0 4, clip b 0 64, clip c 0 lt, clip d 0 ht, o⟩ (by rw [tstep, tstep1, if_pos (show (tclip lt ht ⟨a, b, c, d, o⟩).o = true from h2)]; rfl)]
      rfl
    have ho : ¬ (tclip lt ht ⟨a, b, c, d, o⟩).o = true := fun h => by rw [show (tclip lt ht ⟨a, b, c, d, o⟩).o = false from h2] at h; cases h
    refine Brn.mk (fun h3 => ?_) (fun h3 => ?_)
    · have h3 : ¬ clip a 0 4 = 0 := ndT h3
      have e := fin ⟨clip a 0 4, max (wr (clip b 0 64 - 1)) 0, cnt (clip c 0 lt) (decide (l < lo)) lt, cnt (clip d 0 ht) (decide (hi < l)) ht, decide (max (wr (clip b 0 64 - 1)) 0 = 0)⟩ (by rw [tstep, tstep1, if_neg ho, if_pos (show ¬ (tclip lt ht ⟨a, b, c, d, o⟩).a = 0 from h3)]; rfl)
      refine Brn.mk (fun h4 => ?_) (fun h4 => absurd h3 (ndF h4 |> fun h => fun q => q h))
      refine AVle.tup2 (.agg ?_) (.nilErr h1)
      rw [e]; rfl
    have h3 : clip a 0 4 = 0 := ndF h3
    have ha : ¬ ¬ (tclip lt ht ⟨a, b, c, d, o⟩).a = 0 := fun h => h h3
    refine Brn.mk (fun h4 => ?_) (fun h4 => ?_)
    · have h4 : ¬ tcause (over3 cu x0 x1 x2) (any6 d0 d1 d2 d3 d4 d5) (cnt (clip c 0 lt) (decide (l < lo)) lt) (cnt (clip d 0 ht) (decide (hi < l)) ht) lt ht = 0 := ndT h4
      have e := fin ⟨tcause (over3 cu x0 x1 x2) (any6 d0 d1 d2 d3 d4 d5) (cnt (clip c 0 lt) (decide (l < lo)) lt) (cnt (clip d 0 ht) (decide (hi < l)) ht) lt ht, re, cnt (clip c 0 lt) (decide (l < lo)) lt, cnt (clip d 0 ht) (decide (hi < l)) ht, decide (re = 0)⟩ (by rw [tstep, tstep1, if_neg ho, if_neg ha, if_pos (show ¬ tcause (over3 cu x0 x1 x2) (any6 d0 d1 d2 d3 d4 d5) (cnt (tclip lt ht ⟨a, b, c, d, o⟩).c (decide (l < lo)) lt) (cnt (tclip lt ht ⟨a, b, c, d, o⟩).d (decide (hi < l)) ht) lt ht = 0 from h4)]; rfl)
      refine Brn.mk (fun _ => ?_) (fun h5 => absurd (ndF h5) h4)
      refine AVle.tup2 (.agg ?_) (.nilErr h1)
      rw [e]; rfl
    have h4 : tcause (over3 cu x0 x1 x2) (any6 d0 d1 d2 d3 d4 d5) (cnt (clip c 0 lt) (decide (l < lo)) lt) (cnt (clip d 0 ht) (decide (hi < l)) ht) lt ht = 0 := ndF h4
    have e := fin ⟨0, clip b 0 64, cnt (clip c 0 lt) (decide (l < lo)) lt, cnt (clip d 0 ht) (decide (hi < l)) ht, false⟩ (by rw [tstep, tstep1, if_neg ho, if_neg ha, if_neg (show ¬ ¬ tcause (over3 cu x0 x1 x2) (any6 d0 d1 d2 d3 d4 d5) (cnt (tclip lt ht ⟨a, b, c, d, o⟩).c (decide (l < lo)) lt) (cnt (tclip lt ht ⟨a, b, c, d, o⟩).d (decide (hi < l)) ht) lt ht = 0 from fun h => h h4)]; rfl)
    refine Brn.mk (fun h5 => absurd h4 (ndT h5)) (fun _ => ?_)
    refine AVle.tup2 (.agg ?_) (.nilErr h1)
    rw [e]
    show [AV.int .i64 (tcause (over3 cu x0 x1 x2) (any6 d0 d1 d2 d3 d4 d5) (cnt (clip c 0 lt) (decide (l < lo)) lt) (cnt (clip d 0 ht) (decide (hi < l)) ht) lt ht), _, _, _, _] = _
    rw [h4]; rfl
  · trivial
end
end Go.Proofs.Ytbhbjmneglkgnaa.Img
