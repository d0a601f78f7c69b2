/- The reference of layer 30: clip, floor, Ambient, Celsius, Step. Conditions: none. -/
import Derived.Test.YtjmidgfkocmihaaImg3
import Derived.Test.YtjmidgfkocmihaaAiArr
namespace Go.Proofs.Ytjmidgfkocmihaa.Img
open Go Go.Proofs.Ytjmidgfkocmihaa.AI Go.Proofs
noncomputable section
set_option maxRecDepth 100000

def sR30clip : Sp
  | [.int .i64 n, .int .i64 lo, .int .i64 hi] => .ok (.int .i64 (max lo (min n hi)))
  | _ => .no
theorem okR30clip : EntOK Try.prog TE 40 sR30clip := by
  refine ⟨callable_of Try.func40 (by kernel_rfl), fun args => ?_⟩
  unfold sR30clip
  split
  · refine fn_ofF tabsOK specOK_nil mixed Try.func40 (by kernel_rfl) ?_
    exact AVle.int rfl
  · trivial
def floorI (a b : Int) : Int := if a.tmod b < 0 then wr (wr (a.tdiv b) - 1) else wr (a.tdiv b)
def sFloor : Sp
  | [.int .i64 a, .int .i64 b] => .pre (b ≠ 0) (.int .i64 (floorI a b))
  | _ => .no
theorem okR30floor : EntOK Try.prog TE 42 sFloor := by
  refine ⟨callable_of Try.func42 (by kernel_rfl), fun args => ?_⟩
  unfold sFloor
  split
  · intro hb
    refine fn_ofF tabsOK specOK_nil mixed Try.func42 (by kernel_rfl) ?_
    refine Chk.mk hb (Chk.mk hb ?_)
    refine Brn.mk (fun h => ?_) (fun h => ?_)
    · refine AVle.int ?_
      rw [floorI, if_pos (of_decide_eq_true h)]
    · refine AVle.int ?_
      rw [floorI, if_neg (of_decide_eq_false h)]
  · trivial
def ambR (a : Int) : Int := wr (max (-8388608) (min a 8388608) * 65536)
def sAmb : Sp
  | [.int .i64 a] => .ok (.int .i64 (ambR a))
  | _ => .no
theorem okR30amb : EntOK Try.prog TE 41 sAmb := by
  refine ⟨callable_of Try.func41 (by kernel_rfl), fun args => ?_⟩
  unfold sAmb
  split
  · refine fn_ofF tabsOK (specOK_cons okR30clip specOK_nil) mixed Try.func41 (by kernel_rfl) ?_
    exact AVle.int rfl
  · trivial
theorem p65536 : (65536 : Int) ≠ 0 := by decide
def sCel : Sp
  | [.sl s n f] => .pre (IsI s n f ∧ n ≤ 1048576) (.sl 1 n fun i _ => .int .i64 (floorI (vI f i) 65536))
  | _ => .no
theorem okR30cel : EntOK Try.prog TE 43 sCel := by
  refine ⟨callable_of Try.func43 (by kernel_rfl), fun args => ?_⟩
  unfold sCel
  split
  · rename_i s n f
    rintro ⟨hf, hn⟩
    refine FnOK.args ?_ (m := [.sl 1 n fun i _ => .int .i64 (vI f i)]) ⟨hf.le rfl, trivial⟩
    generalize vI f = g
    refine fn_ofF tabsOK (specOK_cons okR30floor specOK_nil) mixed Try.func43 (by kernel_rfl) ?_
    refine LoopOK.mk ⟨{ i : Nat // i ≤ n }, fun i => mkSt [(0, .sl 1 n fun i _ => .int .i64 (g i)), (3, .own 100 i.1), (4, .int .i64 i.1)]
      [(100, ⟨3, 1, i.1, fun i _ => .int .i64 (floorI (g i) 65536), 1, false⟩)], fun i => n - i.1, ⟨⟨0, by omega⟩, ?_⟩, ?_⟩
    · refine wk_of [(100, some 5)] rfl ⟨⟨rfl, rfl⟩, rfl, ⟨rfl, rfl⟩, trivial⟩ ⟨RowLe.fin rfl rfl rfl rfl rfl ?_, trivial⟩
      (repeat' first | exact trivial | exact ⟨by kernel_rfl, by kernel_rfl⟩ | exact Or.inr (by kernel_rfl) | refine ⟨?_, ?_⟩)
    · rintro ⟨i, hi⟩
      refine Brn.mk (fun h => ?_) (fun h => ?_)
      · have h : (i : Int) < n := by simpa using h
        have hb : (0 : Int) ≤ (i : Int) ∧ (i : Int) < (n : Int) := ⟨by omega, h⟩
        refine Chk.mk hb ?_
        refine Chk.mk p65536 ?_
        have hq : (i + 1) * 8 ≤ 140737488355328 ∧ i + 1 ≤ 9223372036854775807 := ⟨by omega, by omega⟩
        refine Chk.mk hq ?_
        refine ⟨⟨i + 1, by omega⟩, by show n - (i + 1) < n - i; omega, ?_⟩
        refine wk_of [(100, some 19)] rfl ⟨⟨rfl, rfl⟩, rfl, ⟨?_, rfl⟩, trivial⟩ ⟨RowLe.app (n := i) (fun i => .int .i64 (floorI (g i) 65536)) rfl rfl rfl (fun _ _ => rfl) rfl, trivial⟩
        · exact wrS (i := i) (by omega)
      · have h : ¬ (i : Int) < n := by simpa using h
        refine AVle.sl (show i = n by omega) fun i j hi hj => rfl
  · trivial
end
end Go.Proofs.Ytjmidgfkocmihaa.Img
