/- Chapter 45: the small functions of layer 30. Conditions: none. -/
import Derived.Test.YtjmidgfkocmihaaImgB
import Derived.Test.YtjmidgfkocmihaaAiArr
import Derived.Test.YtjmidgfkocmihaaAiFrz
import Derived.Test.YtjmidgfkocmihaaAiMore2
namespace Go.Proofs.Ytjmidgfkocmihaa.Img
open Go Go.Proofs.Ytjmidgfkocmihaa.AI Go.Proofs
noncomputable section
set_option maxRecDepth 100000
theorem okClip : EntOK Try.prog TE 37 sClip := by
  refine ⟨callable_of Try.func37 (by kernel_rfl), fun args => ?_⟩
  unfold sClip
  split
  · refine fn_ofF tabsOK specOK_nil mixed Try.func37 (by kernel_rfl) ?_
    exact AVle.int rfl
  · trivial
def warm (a : Int) : Int := wr (clip a (-8388608) 8388608 * 65536)
def sWarm : Sp
  | [.int .i64 a] => .ok (.int .i64 (warm a))
  | _ => .no
theorem okWarm : EntOK Try.prog TE 38 sWarm := by
  refine ⟨callable_of Try.func38 (by kernel_rfl), fun args => ?_⟩
  unfold sWarm
  split
  · refine fn_ofF tabsOK (specOK_cons okClip specOK_nil) mixed Try.func38 (by kernel_rfl) ?_
    exact AVle.int rfl
  · trivial
/-- No share. -/
def badS (x : Int) : Bool := decide (x < 0) || decide (65536 < x)
def sShare : Sp
  | [.int .i64 x] => .ok (.bit (!badS x))
  | _ => .no
theorem okShare : EntOK Try.prog TE 44 sShare := by
  refine ⟨callable_of Try.func44 (by kernel_rfl), fun args => ?_⟩
  unfold sShare
  split
  · refine fn_ofF tabsOK specOK_nil mixed Try.func44 (by kernel_rfl) ?_
    refine Brn.mk (fun h => ?_) (fun h => ?_)
    · have h := of_decide_eq_true h
      refine AVle.bit ?_
      simp only [badS]
      rw [Bool.eq_iff_iff]
      simp
      omega
    · have h := of_decide_eq_false h
      refine AVle.bit ?_
      rw [Bool.eq_iff_iff]
      simp [badS]
      omega
  · trivial
end
end Go.Proofs.Ytjmidgfkocmihaa.Img
