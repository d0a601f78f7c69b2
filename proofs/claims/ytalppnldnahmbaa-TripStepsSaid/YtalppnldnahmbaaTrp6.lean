/- Chapter 44: the reference's tick. Conditions: none. -/
import Derived.Test.YtalppnldnahmbaaTrp5
namespace Go.Proofs.Ytalppnldnahmbaa.Img
open Go Go.Proofs.Ytalppnldnahmbaa.AI Go.Proofs
noncomputable section
set_option maxRecDepth 100000
theorem clip2_eq {n lo hi : Int} (h : lo ≤ hi) : max lo (min n hi) = clip n lo hi := by unfold clip; omega
def sStepR : Sp
  | [.agg [.int .i64 cu, .int .i64 lo, .int .i64 hi, .int .i64 re, .int .i64 lt, .int .i64 ht], .agg [.int .i64 a, .int .i64 b, .int .i64 c, .int .i64 d, .bit o], .agg [.int .i64 x0, .int .i64 x1, .int .i64 x2, .int .i64 l, .bit d0, .bit d1, .bit d2, .bit d3, .bit d4, .bit d5]] =>
    .pre (0 ≤ lt ∧ 0 ≤ ht) (.agg (tstep cu lo hi re lt ht ⟨a, b, c, d, o⟩ x0 x1 x2 l (any6 d0 d1 d2 d3 d4 d5)).l)
  | _ => .no
set_option maxHeartbeats 8000000 in
theorem ok17 : EntOK Try.prog TE 17 sStepR := by
  refine ⟨callable_of Try.func17 (by kernel_rfl), fun args => ?_⟩
  unfold sStepR
  split
  · rename_i cu lo hi re lt ht a b c d o x0 x1 x2 l d0 d1 d2 d3 d4 d5
    rintro ⟨h1, h2⟩
    have e : tstep cu lo hi re lt ht ⟨a, b, c, d, o⟩ x0 x1 x2 l (any6 d0 d1 d2 d3 d4 d5) = tstep1 re lt ht ⟨max 0 (min a 4), max 0 (min b 64), max 0 (min c lt), max 0 (min d ht), o⟩ (decide (l < lo)) (decide (hi < l)) (over3 cu x0 x1 x2) (any6 d0 d1 d2 d3 d4 d5) := by
      rw [tstep, tclip, clip2_eq (by decide), clip2_eq (by decide), clip2_eq h1, clip2_eq h2]
    rw [e]
    refine fn_ofF tabsOK (specOK_cons ok33 (specOK_cons ok34 (specOK_cons ok35 specOK_nil))) mixed Try.func17 (by kernel_rfl) ?_
    refine Brn.mk (fun h => AVle.agg ?_) (fun h => ?_)
    · rw [tstep1, if_pos (show o = true from h)]; rfl
    have ho : ¬ o = true := by rw [show o = false from h]; decide
    repeat' refine Brn.mk (fun _ => ?_) (fun _ => ?_)
    all_goals refine AVle.agg ?_
    all_goals unfold tstep1 cnt
    all_goals first
      | (simp only [*]; simp_all [tcause, TS.l, Int.max_comm]; done)
      | (simp_all [tcause, TS.l, Int.max_comm]; done)
      | skip
  · trivial
end
end Go.Proofs.Ytalppnldnahmbaa.Img
