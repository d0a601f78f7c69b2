/- Chapter 47: the contracts of the torque-off functions. Conditions: none. -/
import Derived.Test.YtbhbjmneglkgnaaTop2
namespace Go.Proofs.Ytbhbjmneglkgnaa.Img
open Go Go.Proofs.Ytbhbjmneglkgnaa.AI Go.Proofs
noncomputable section
set_option maxRecDepth 100000
theorem ok25 : EntOK Try.prog TE 25 sWi := by
  refine ⟨callable_of Try.func25 (by kernel_rfl), fun args => ?_⟩
  unfold sWi
  split
  · refine fn_ofF tabsOK specOK_nil mixed Try.func25 (by kernel_rfl) ?_
    refine Brn.mk (fun h => ?_) (fun h => ?_)
    · refine AVle.bit ?_
      rw [outB_ge h, Bool.not_not]
    · refine AVle.bit ?_
      rw [outB_lt h]; rfl
  · trivial
theorem ok40 : EntOK Try.prog TE 40 sWi := by
  refine ⟨callable_of Try.func40 (by kernel_rfl), fun args => ?_⟩
  unfold sWi
  split
  · refine fn_ofF tabsOK specOK_nil mixed Try.func40 (by kernel_rfl) ?_
    refine Brn.mk (fun h => ?_) (fun h => ?_)
    · refine AVle.bit ?_
      rw [outB_ge h, Bool.not_not]
    · refine AVle.bit ?_
      rw [outB_lt h]; rfl
  · trivial
def ochk (e l a : Int) : Int := if outB l 1 8 = true ∨ outB e (wr (4 * l)) 65536 = true ∨ outB a 1 1024 = true then 3 else 0
def sOChk : Sp
  | [.agg [.int .i64 e, .int .i64 l, .int .i64 a]] => .ok (.err (ochk e l a))
  | _ => .no
theorem ok11 : EntOK Try.prog TE 11 sOChk := by
  refine ⟨callable_of Try.func11 (by kernel_rfl), fun args => ?_⟩
  unfold sOChk
  split
  · rename_i e l a
    refine fn_ofF tabsOK (specOK_cons ok25 specOK_nil) mixed Try.func11 (by kernel_rfl) ?_
    have bad : (outB l 1 8 = true ∨ outB e (wr (4 * l)) 65536 = true ∨ outB a 1 1024 = true) → 3 = ochk e l a := fun h => by rw [ochk, if_pos h]
    refine Brn.mk (fun h => Chk.mk (by decide) (AVle.err (bad (.inl (by simpa using h))))) (fun h1 => ?_)
    refine Brn.mk (fun h => Chk.mk (by decide) (AVle.err (bad (.inr (.inl (by simpa using h)))))) (fun h2 => ?_)
    refine Brn.mk (fun h => Chk.mk (by decide) (AVle.err (bad (.inr (.inr (by simpa using h)))))) (fun h3 => ?_)
    refine AVle.nilErr ?_
    simp only [Bool.not_not] at h1 h2 h3
    rw [ochk, if_neg (by simp [h1, h2, h3])]
  · trivial
theorem ochk_zero {e l a : Int} (h : ochk e l a = 0) : (1 ≤ l ∧ l ≤ 8) ∧ (4 ≤ e ∧ e ≤ 65536) ∧ (1 ≤ a ∧ a ≤ 1024) := by
  unfold ochk at h
  split at h
  · cases h
  · rename_i q
    simp only [outB, Bool.or_eq_true, decide_eq_true_eq, not_or, Int.not_lt] at q
    obtain ⟨⟨l1, l2⟩, ⟨e1, e2⟩, a1, a2⟩ := q
    rw [wr_id (by omega) (by omega)] at e1
    omega
def sOBeg : Sp
  | [.agg [.int .i64 _, .int .i64 l, .int .i64 _]] => .ok (.agg [.int .i64 0, .int .i64 0, .int .i64 (wr (l + 1)), .int .i64 (wr (l + 1)), .bit false, .bit false, .bit false])
  | _ => .no
theorem ok26 : EntOK Try.prog TE 26 sOBeg := by
  refine ⟨callable_of Try.func26 (by kernel_rfl), fun args => ?_⟩
  unfold sOBeg
  split
  · refine fn_ofF tabsOK specOK_nil mixed Try.func26 (by kernel_rfl) ?_
    exact AVle.agg rfl
  · trivial
def sOStart : Sp
  | [.agg [.int .i64 e, .int .i64 l, .int .i64 a]] => .pre (ochk e l a = 0) (.tup [.agg [.int .i64 0, .int .i64 0, .int .i64 (wr (l + 1)), .int .i64 (wr (l + 1)), .bit false, .bit false, .bit false], .err 0])
  | _ => .no
theorem ok12 : EntOK Try.prog TE 12 sOStart := by
  refine ⟨callable_of Try.func12 (by kernel_rfl), fun args => ?_⟩
  unfold sOStart
  split
  · intro h
    refine fn_ofF tabsOK (specOK_cons ok11 (specOK_cons ok26 specOK_nil)) mixed Try.func12 (by kernel_rfl) ?_
    refine Brn.mk (fun q => absurd h (ndT q)) (fun _ => ?_)
    exact AVle.tup2 (.agg rfl) (.nilErr rfl)
  · trivial
def tcnt (n : Int) (b : Bool) (m : Int) : Int := if b = true then min (wr (min (max n 0) m + 1)) m else 0
def sTCnt : Sp
  | [.int .i64 n, .bit b, .int .i64 m] => .ok (.int .i64 (tcnt n b m))
  | _ => .no
theorem ok27 : EntOK Try.prog TE 27 sTCnt := by
  refine ⟨callable_of Try.func27 (by kernel_rfl), fun args => ?_⟩
  unfold sTCnt
  split
  · refine fn_ofF tabsOK specOK_nil mixed Try.func27 (by kernel_rfl) ?_
    refine Brn.mk (fun h => AVle.int ?_) (fun h => AVle.int ?_)
    · rw [tcnt, if_neg (by simpa using h)]
    · rw [tcnt, if_pos (by simpa using h)]
  · trivial
def tst (e l ch t : Int) : Bool := if ch = 0 then !outB t (wr (e.tdiv 2)) (wr (wr (wr (e.tdiv 2) + l) - 1)) else !outB t (wr (e - l)) (wr (wr (wr (e - l) + l) - 1))
def sTst : Sp
  | [.agg [.int .i64 e, .int .i64 l, .int .i64 _], .int .i64 ch, .int .i64 t] => .ok (.bit (tst e l ch t))
  | _ => .no
theorem ok28 : EntOK Try.prog TE 28 sTst := by
  refine ⟨callable_of Try.func28 (by kernel_rfl), fun args => ?_⟩
  unfold sTst
  split
  · rename_i e l a ch t
    refine fn_ofF tabsOK (specOK_cons ok25 specOK_nil) mixed Try.func28 (by kernel_rfl) ?_
    refine Brn.mk (fun h => ?_) (fun h => AVle.bit ?_)
    · refine Chk.mk (by decide) (AVle.bit ?_)
      rw [tst, if_pos (of_decide_eq_true h)]
    · rw [tst, if_neg (of_decide_eq_false h)]
  · trivial
/-- The numbers from 0 to 2. -/
inductive K3 where
  | k0
  | k1
  | k2
def K3.n : K3 → Nat
  | .k0 => 0
  | .k1 => 1
  | .k2 => 2
def stgF (l f : Int) (c : Bool) : Int := tcnt f (!c) (wr (l + 1))
def sStage : Sp
  | [.agg [.int .i64 e, .int .i64 l, .int .i64 a], .agg [.int .i64 f0, .int .i64 f1, .bit _], .agg [.bit c0, .bit c1]] => .pre (ochk e l a = 0)
      (.tup [.agg [.int .i64 (stgF l f0 c0), .int .i64 (stgF l f1 c1), .bit (decide (l < stgF l f0 c0) || decide (l < stgF l f1 c1))], .err 0])
  | _ => .no
def stgSt (e l a f0 f1 : Int) (c0 c1 : Bool) : K3 → St
  | .k0 => mkSt [(3, .loc 3 0), (4, .loc 4 0), (6, .loc 6 0), (18, .agg [.bit c0, .bit c1]), (19, .int .i64 0)]
      [(3, ⟨41, 3, 1, fun _ j => nth [.int .i64 e, .int .i64 l, .int .i64 a] j, 0, true⟩), (4, ⟨50, 3, 1, fun _ j => nth [.int .i64 f0, .int .i64 f1, .bit false] j, 0, true⟩), (6, ⟨50, 3, 1, fun _ j => nth [.int .i64 0, .int .i64 0, .bit false] j, 0, true⟩)]
  | .k1 => mkSt [(3, .loc 3 0), (4, .loc 4 0), (6, .loc 6 0), (18, .agg [.bit c0, .bit c1]), (19, .int .i64 1)]
      [(3, ⟨41, 3, 1, fun _ j => nth [.int .i64 e, .int .i64 l, .int .i64 a] j, 0, true⟩), (4, ⟨50, 3, 1, fun _ j => nth [.int .i64 (stgF l f0 c0), .int .i64 f1, .bit (decide (l < stgF l f0 c0))] j, 0, true⟩), (6, ⟨50, 3, 1, fun _ j => nth [.int .i64 0, .int .i64 0, .bit false] j, 0, true⟩)]
  | .k2 => mkSt [(3, .loc 3 0), (4, .loc 4 0), (6, .loc 6 0), (18, .agg [.bit c0, .bit c1]), (19, .int .i64 2)]
      [(3, ⟨41, 3, 1, fun _ j => nth [.int .i64 e, .int .i64 l, .int .i64 a] j, 0, true⟩), (4, ⟨50, 3, 1, fun _ j => nth [.int .i64 (stgF l f0 c0), .int .i64 (stgF l f1 c1), .bit (decide (l < stgF l f0 c0) || decide (l < stgF l f1 c1))] j, 0, true⟩), (6, ⟨50, 3, 1, fun _ j => nth [.int .i64 0, .int .i64 0, .bit false] j, 0, true⟩)]
theorem ok14 : EntOK Try.prog TE 14 sStage := by
  refine ⟨callable_of Try.func14 (by kernel_rfl), fun args => ?_⟩
  unfold sStage
  split
  · rename_i e l a f0 f1 of c0 c1
    intro h
    refine fn_ofF tabsOK (specOK_cons ok11 (specOK_cons ok27 specOK_nil)) mixed Try.func14 (by kernel_rfl) ?_
    refine Brn.mk (fun q => absurd h (ndT q)) (fun _ => ?_)
    refine LoopOK.mk ⟨K3, stgSt e l a f0 f1 c0 c1, fun k => 2 - k.n, ⟨.k0, ?_⟩, ?_⟩
    · refine wk_of [(3, some 3), (4, some 4), (6, some 6)] rfl ⟨rfl, rfl, rfl, ⟨rfl, rfl⟩, ⟨rfl, rfl⟩, trivial⟩ ⟨RowLe.fin rfl rfl rfl rfl rfl ?_, RowLe.fin rfl rfl rfl rfl rfl ?_, RowLe.fin rfl rfl rfl rfl rfl ?_, trivial⟩
      all_goals (repeat' first | exact trivial | exact ⟨by kernel_rfl, by kernel_rfl⟩ | exact Or.inr (by kernel_rfl) | (show _ = _; kernel_rfl) | refine ⟨?_, ?_⟩)
    rintro (_ | _ | _)
    · refine Brn.mk (fun _ => ?_) (fun q => absurd q (by decide +kernel))
      refine Chk.mk ⟨Int.le_refl 0, (show (0 : Int) < 2 by decide)⟩ ?_
      refine Chk.mk ⟨Int.le_refl 0, (show (0 : Int) < 2 by decide)⟩ (Chk.mk ⟨Int.le_refl 0, (show (0 : Int) < 2 by decide)⟩ (Chk.mk (by kernel_rfl) ?_))
      refine Brn.mk (fun q => absurd (show false = true from q) (by decide)) (fun _ => ?_)
      refine Chk.mk ⟨Int.le_refl 0, (show (0 : Int) < 2 by decide)⟩ (Chk.mk (by kernel_rfl) ?_)
      refine ⟨.k1, by decide, ?_⟩
      refine wk_of [(3, some 3), (4, some 4), (6, some 6)] rfl ⟨rfl, rfl, rfl, ⟨rfl, rfl⟩, ⟨rfl, rfl⟩, trivial⟩ ⟨RowLe.fin rfl rfl rfl rfl rfl ?_, RowLe.fin rfl rfl rfl rfl rfl ?_, RowLe.fin rfl rfl rfl rfl rfl ?_, trivial⟩
      all_goals (repeat' first | exact trivial | exact ⟨by kernel_rfl, by kernel_rfl⟩ | exact Or.inr (by kernel_rfl) | (show _ = _; kernel_rfl) | refine ⟨?_, ?_⟩)
    · have i1 : (0 : Int) ≤ 1 ∧ (1 : Int) < 2 := by decide
      refine Brn.mk (fun _ => ?_) (fun q => absurd q (by decide +kernel))
      refine Chk.mk i1 ?_
      refine Chk.mk i1 (Chk.mk i1 (Chk.mk (by kernel_rfl) ?_))
      refine Brn.mk (fun q => ?_) (fun q => ?_)
      · have q : decide (l < stgF l f0 c0) = true := q
        refine Chk.mk (by kernel_rfl) ?_
        refine ⟨.k2, by decide, ?_⟩
        refine wk_of [(3, some 3), (4, some 4), (6, some 6)] rfl ⟨rfl, rfl, rfl, ⟨rfl, rfl⟩, ⟨rfl, rfl⟩, trivial⟩ ⟨RowLe.fin rfl rfl rfl rfl rfl ?_, RowLe.fin rfl rfl rfl rfl rfl ⟨trivial, ⟨⟨⟨trivial, ?_⟩, ?_⟩, ?_⟩⟩, RowLe.fin rfl rfl rfl rfl rfl ?_, trivial⟩
        · (repeat' first | exact trivial | exact ⟨by kernel_rfl, by kernel_rfl⟩ | exact Or.inr (by kernel_rfl) | (show _ = _; kernel_rfl) | refine ⟨?_, ?_⟩)
        · exact ⟨by kernel_rfl, by kernel_rfl⟩
        · exact ⟨by kernel_rfl, by kernel_rfl⟩
        · exact ⟨congrArg AV.bit (show true = (decide (l < stgF l f0 c0) || decide (l < stgF l f1 c1)) by rw [q]; rfl), rfl⟩
        · (repeat' first | exact trivial | exact ⟨by kernel_rfl, by kernel_rfl⟩ | exact Or.inr (by kernel_rfl) | (show _ = _; kernel_rfl) | refine ⟨?_, ?_⟩)
      · have q : decide (l < stgF l f0 c0) = false := q
        refine Chk.mk i1 (Chk.mk (by kernel_rfl) ?_)
        refine ⟨.k2, by decide, ?_⟩
        refine wk_of [(3, some 3), (4, some 4), (6, some 6)] rfl ⟨rfl, rfl, rfl, ⟨rfl, rfl⟩, ⟨rfl, rfl⟩, trivial⟩ ⟨RowLe.fin rfl rfl rfl rfl rfl ?_, RowLe.fin rfl rfl rfl rfl rfl ⟨trivial, ⟨⟨⟨trivial, ?_⟩, ?_⟩, ?_⟩⟩, RowLe.fin rfl rfl rfl rfl rfl ?_, trivial⟩
        · (repeat' first | exact trivial | exact ⟨by kernel_rfl, by kernel_rfl⟩ | exact Or.inr (by kernel_rfl) | (show _ = _; kernel_rfl) | refine ⟨?_, ?_⟩)
        · exact ⟨by kernel_rfl, by kernel_rfl⟩
        · exact ⟨by kernel_rfl, by kernel_rfl⟩
        · exact ⟨congrArg AV.bit (show decide (l < stgF l f1 c1) = (decide (l < stgF l f0 c0) || decide (l < stgF l f1 c1)) by rw [q]; rfl), rfl⟩
        · (repeat' first | exact trivial | exact ⟨by kernel_rfl, by kernel_rfl⟩ | exact Or.inr (by kernel_rfl) | (show _ = _; kernel_rfl) | refine ⟨?_, ?_⟩)
    · refine Brn.mk (fun q => absurd q (by decide +kernel)) (fun _ => ?_)
      exact AVle.tup2 (.agg rfl) (.nilErr rfl)
  · trivial
end
end Go.Proofs.Ytbhbjmneglkgnaa.Img
