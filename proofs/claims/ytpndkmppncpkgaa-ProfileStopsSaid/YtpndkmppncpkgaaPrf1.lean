/- The tables, and the small functions' contracts. Conditions: none. -/
import Derived.Test.YtpndkmppncpkgaaAiArr
import Derived.Test.YtpndkmppncpkgaaPrfM
import Derived.Test.YtpndkmppncpkgaaAiFrz
import Derived.Test.YtpndkmppncpkgaaChecked
import Derived.ProofKit
namespace Go.Proofs.Ytpndkmppncpkgaa.Img
open Go Go.Proofs.Ytpndkmppncpkgaa.AI Go.Proofs
noncomputable section
set_option maxRecDepth 100000
def tabs : List (Nat × TD) := [
  (2, ⟨.int .i64, 1, 8, [.int .i64 0]⟩),
  (3, ⟨.int .i64, 1, 8, [.int .i64 0]⟩),
  (4, ⟨.bool, 1, 1, [.bit false]⟩),
  (5, ⟨.int .u8, 1, 1, [.int .u8 0]⟩),
  (9, ⟨.prim, 1, 16, [.bad]⟩),
  (12, ⟨.int .u64, 1, 8, [.int .u64 0]⟩),
  (13, ⟨.struct [(0, 1, 9), (1, 1, 12)], 2, 24, [.bad, .int .u64 0]⟩),
  (20, ⟨.iface, 1, 16, [.nilI]⟩),
  (21, ⟨.int .i32, 1, 4, [.int .i32 0]⟩),
  (22, ⟨.struct [(0, 1, 3), (1, 1, 3), (2, 1, 3), (3, 1, 3)], 4, 32, [.int .i64 0, .int .i64 0, .int .i64 0, .int .i64 0]⟩),
  (23, ⟨.struct [(0, 1, 3), (1, 1, 3), (2, 1, 3), (3, 1, 3)], 4, 32, [.int .i64 0, .int .i64 0, .int .i64 0, .int .i64 0]⟩),
  (27, ⟨.iface, 1, 16, [.nilI]⟩),
  (28, ⟨.iface, 1, 16, [.nilI]⟩),
  (31, ⟨.struct [(0, 1, 3), (1, 1, 3), (2, 1, 3), (3, 1, 3)], 4, 32, [.int .i64 0, .int .i64 0, .int .i64 0, .int .i64 0]⟩),
  (32, ⟨.struct [(0, 1, 3), (1, 1, 3), (2, 1, 3), (3, 1, 3)], 4, 32, [.int .i64 0, .int .i64 0, .int .i64 0, .int .i64 0]⟩),
  (48, ⟨.slice 3, 1, 24, [.nilS]⟩),
  (49, ⟨.struct [(0, 1, 3), (1, 1, 3), (2, 1, 48), (3, 1, 48), (4, 4, 32)], 8, 96, [.int .i64 0, .int .i64 0, .nilS, .nilS, .int .i64 0, .int .i64 0, .int .i64 0, .int .i64 0]⟩),
  (50, ⟨.struct [(0, 1, 3), (1, 1, 3), (2, 1, 48), (3, 1, 48), (4, 4, 32)], 8, 96, [.int .i64 0, .int .i64 0, .nilS, .nilS, .int .i64 0, .int .i64 0, .int .i64 0, .int .i64 0]⟩),
  (60, ⟨.array 2 5, 2, 2, [.int .u8 0, .int .u8 0]⟩),
  (63, ⟨.struct [(0, 1, 3), (1, 1, 3), (2, 1, 3), (3, 1, 3)], 4, 32, [.int .i64 0, .int .i64 0, .int .i64 0, .int .i64 0]⟩),
  (64, ⟨.struct [(0, 1, 3), (1, 1, 3), (2, 1, 3), (3, 1, 3)], 4, 32, [.int .i64 0, .int .i64 0, .int .i64 0, .int .i64 0]⟩),
  (69, ⟨.int .i64, 1, 8, [.int .i64 0]⟩),
  (82, ⟨.int .u64, 1, 8, [.int .u64 0]⟩),
  (91, ⟨.int .u32, 1, 4, [.int .u32 0]⟩),
  (95, ⟨.prim, 1, 8, [.nilP]⟩)]
theorem tabsOK : (tabs.all fun p => tdOK Try.prog p.1 p.2) = true := by kernel_rfl
theorem mixed : Try.prog.follows .mixedOrders = true := by kernel_rfl
abbrev TE : Nat := 69
def E0 : Env := env TE tabs []
theorem own0 : ownKnob Try.prog.godebug = none := by kernel_rfl
theorem laidOut0 : Go.laidOutB Try.prog = true := by kernel_rfl
theorem tabE0 : TabOK Try.prog E0 := tabOK_of tabsOK


def clip (n lo hi : Int) : Int := max lo (min n hi)
def sClip : Sp
  | [.int .i64 n, .int .i64 lo, .int .i64 hi] => .ok (.int .i64 (clip n lo hi))
  | _ => .no
theorem ok16 : EntOK Try.prog TE 16 sClip := by
  refine ⟨callable_of Try.func16 (by kernel_rfl), fun args => ?_⟩
  unfold sClip
  split
  · refine fn_ofF tabsOK specOK_nil mixed Try.func16 (by kernel_rfl) ?_
    exact AVle.int rfl
  · trivial
theorem ok35 : EntOK Try.prog TE 35 sClip := by
  refine ⟨callable_of Try.func35 (by kernel_rfl), fun args => ?_⟩
  unfold sClip
  split
  · refine fn_ofF tabsOK specOK_nil mixed Try.func35 (by kernel_rfl) ?_
    exact AVle.int rfl
  · trivial
def sNum : Sp
  | [.err n] => .ok (.int .i64 n)
  | _ => .no
theorem okNum : EntOK Try.prog TE 24 sNum := by
  refine ⟨callable_of Try.func24 (by kernel_rfl), fun args => ?_⟩
  unfold sNum
  split
  · rename_i n
    refine fn_ofF tabsOK specOK_nil mixed Try.func24 (by kernel_rfl) ?_
    refine Brn.mk (fun h => ?_) (fun h => ?_)
    · refine AVle.int ?_
      simp at h; exact h.symm
    · refine Brn.mk (fun h2 => ?_) (fun h2 => ?_)
      · exact AVle.int rfl
      · simp_all
  · trivial
/-- A motion of the specified form. -/
def pOK (d v a b : Int) : Prop := (1 ≤ v ∧ v ≤ 16777216) ∧ (1 ≤ a ∧ a ≤ 256) ∧ (1 ≤ b ∧ b ≤ 256) ∧ -1099511627776 ≤ d ∧ d ≤ 1099511627776
instance (d v a b : Int) : Decidable (pOK d v a b) := inferInstanceAs (Decidable (_ ∧ _))
def pchk (d v a b : Int) : Int := if pOK d v a b then 0 else 3
theorem pchk_no {d v a b : Int} (h : ¬ pOK d v a b) : 3 = pchk d v a b := (if_neg h).symm
theorem pchk_ok {d v a b : Int} (h : pOK d v a b) : pchk d v a b = 0 := if_pos h
theorem pchk0 {d v a b : Int} : pchk d v a b = 0 ↔ pOK d v a b := by
  unfold pchk; split <;> simp_all
def sRChk : Sp
  | [.agg [.int .i64 d, .int .i64 v, .int .i64 a, .int .i64 b]] => .ok (.int .i64 (pchk d v a b))
  | _ => .no
theorem ok12 : EntOK Try.prog TE 12 sRChk := by
  refine ⟨callable_of Try.func12 (by kernel_rfl), fun args => ?_⟩
  unfold sRChk
  split
  · refine fn_ofF tabsOK specOK_nil mixed Try.func12 (by kernel_rfl) ?_
    repeat' first
      | refine Brn.mk (fun h => ?_) (fun h => ?_)
    all_goals (refine AVle.int ?_; simp only [decide_eq_true_eq, decide_eq_false_iff_not] at *)
    all_goals first
      | exact pchk_no (fun h => by unfold pOK at h; omega)
      | exact (pchk_ok (by unfold pOK; omega)).symm
  · trivial
def bchk (a b : Int) : Int := if (1 ≤ a ∧ a ≤ 256) ∧ (1 ≤ b ∧ b ≤ 256) then 0 else 3
theorem bchk0 {a b : Int} : bchk a b = 0 ↔ ((1 ≤ a ∧ a ≤ 256) ∧ (1 ≤ b ∧ b ≤ 256)) := by
  unfold bchk; split <;> simp_all
def sBoxes : Sp
  | [.int .i64 a, .int .i64 b] => .ok (.err (bchk a b))
  | _ => .no
theorem ok44 : EntOK Try.prog TE 44 sBoxes := by
  refine ⟨callable_of Try.func44 (by kernel_rfl), fun args => ?_⟩
  unfold sBoxes
  split
  · refine fn_ofF tabsOK specOK_nil mixed Try.func44 (by kernel_rfl) ?_
    repeat' first
      | refine Brn.mk (fun h => ?_) (fun h => ?_)
    all_goals simp only [decide_eq_true_eq, decide_eq_false_iff_not] at *
    · refine Chk.mk (by decide) (AVle.err ?_)
      unfold bchk; split <;> omega
    · refine Chk.mk (by decide) (AVle.err ?_)
      unfold bchk; split <;> omega
    · refine AVle.nilErr ?_
      unfold bchk; split <;> omega
  · trivial
def sPChk : Sp
  | [.agg [.int .i64 d, .int .i64 v, .int .i64 a, .int .i64 b]] => .ok (.err (pchk d v a b))
  | _ => .no
theorem ok25 : EntOK Try.prog TE 25 sPChk := by
  refine ⟨callable_of Try.func25 (by kernel_rfl), fun args => ?_⟩
  unfold sPChk
  split
  · refine fn_ofF tabsOK (specOK_cons ok44 specOK_nil) mixed Try.func25 (by kernel_rfl) ?_
    repeat' first
      | refine Brn.mk (fun h => ?_) (fun h => ?_)
    all_goals first
      | (refine Chk.mk (by decide) (AVle.err (pchk_no (fun h0 => ?_))); unfold pOK at h0; simp only [bchk0, decide_eq_true_eq, decide_eq_false_iff_not, Bool.not_eq_true', Bool.not_eq_false'] at *; omega)
      | (refine AVle.nilErr (pchk_ok ?_); unfold pOK; simp only [bchk0, decide_eq_true_eq, decide_eq_false_iff_not, Bool.not_eq_true', Bool.not_eq_false'] at *; omega)
  · trivial
end
end Go.Proofs.Ytpndkmppncpkgaa.Img
