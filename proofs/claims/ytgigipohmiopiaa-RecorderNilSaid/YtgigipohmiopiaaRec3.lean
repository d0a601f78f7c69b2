/- Chapter 57: the document's example. Conditions: none. -/
import Derived.Test.YtgigipohmiopiaaRec2
namespace Go.Proofs.Ytgigipohmiopiaa.Img
open Go Go.Proofs.Ytgigipohmiopiaa.AI Go.Proofs
noncomputable section
set_option maxRecDepth 100000
def newI : InlT := evInl (envI TE tabs [(16, sCfg)] []) Try.f11
theorem newE : InlEnt Try.prog TE 11 newI := inl_of tabsOK (specOK_cons ok16 specOK_nil) inlOK_nil mixed Try.func11 (by kernel_rfl) (by kernel_rfl)
def keepI : InlT := evInl (envI TE tabs [] [(18, delT)]) Try.f15
theorem keepE : InlEnt Try.prog TE 15 keepI := inl_of tabsOK specOK_nil (inlOK_cons delT_ok inlOK_nil) mixed Try.func15 (by kernel_rfl) (by kernel_rfl)
def pushI : InlT := evInl (envI TE tabs [(13, sClo), (14, sCom)] [(15, keepI)]) Try.f7
theorem pushE : InlEnt Try.prog TE 7 pushI := inl_of tabsOK (specOK_cons ok13 (specOK_cons ok14 specOK_nil)) (inlOK_cons keepE inlOK_nil) mixed Try.func7 (by kernel_rfl) (by kernel_rfl)
def traI : InlT := evInl (envI TE tabs [(13, sClo)] []) Try.f5
theorem traE : InlEnt Try.prog TE 5 traI := inl_of tabsOK (specOK_cons ok13 specOK_nil) inlOK_nil mixed Try.func5 (by kernel_rfl) (by kernel_rfl)
def aV (i : Nat) : Int := match i with
  | 0 => 20
  | 1 => 5
  | 2 => 11
  | 3 => 7
  | _ => 9
def vlR : Row := ⟨3, 1, 5, fun i _ => .int .i64 (aV i), 0, false⟩
def oneR (x : Int) : Row := ⟨3, 1, 1, fun _ _ => .int .i64 x, 0, false⟩
def rcR (st : Int) (tk : AV) (seen at' : Int) : Row := ⟨42, 11, 1, fun _ j => nth [.int .i64 1, .int .i64 3, .int .i64 1, .int .i64 0, .int .i64 0, .int .i64 10, .int .i64 st, tk, .int .i64 seen, .int .i64 at', .bit false] j, 0, true⟩
def tkR (n st : Nat) (z : Nat → Int) : Row := ⟨22, 1, n, tkF z, st, false⟩
inductive K6 where
  | k0
  | k1
  | k2
  | k3
  | k4
  | k5
def K6.n : K6 → Nat
  | .k0 => 0
  | .k1 => 1
  | .k2 => 2
  | .k3 => 3
  | .k4 => 4
  | .k5 => 5
def awT (k : Int) : List (Nat × AV) := [(1, .loc 200 0), (18, .own 202 5), (19, .int .i64 5), (20, .int .i64 k)]
/-- The ticks that are kept: behind the first, the second, the third call and the fourth. -/
def z1 (_ : Nat) : Int := 20
def z2 (i : Nat) : Int := match i with | 0 => 20 | _ => 5
def z3 (i : Nat) : Int := match i with | 0 => 5 | _ => 11
def z4 (i : Nat) : Int := match i with | 0 => 5 | 1 => 11 | _ => 7
def awSt : K6 → St
  | .k0 => mkSt (awT 0) [(200, rcR 0 .nilS 0 0), (202, vlR)]
  | .k1 => mkSt (awT 1) [(200, rcR 0 (.own 201 1) 1 0), (202, vlR), (201, tkR 1 1 z1)]
  | .k2 => mkSt (awT 2) [(200, rcR 0 (.own 201 2) 2 0), (202, vlR), (201, tkR 2 1 z2)]
  | .k3 => mkSt (awT 3) [(200, rcR 1 (.own 201 2) 3 1), (202, vlR), (201, tkR 2 1 z3)]
  | .k4 => mkSt (awT 4) [(200, rcR 2 (.own 201 3) 4 1), (202, vlR), (201, tkR 3 1 z4)]
  | .k5 => mkSt (awT 5) [(200, rcR 2 (.own 201 3) 4 1), (202, vlR), (201, tkR 3 1 z4)]
def pshT (k : Int) : List (Nat × AV) := (24, .loc 200 0) :: (26, .own 26 1) :: awT k
theorem wk_trans {E : Env} {a b c : St} (h1 : Wk E a b) (h2 : Wk E b c) : Wk E a c := fun N B w0 I0 x w h => h2 N B w0 I0 x w (h1 N B w0 I0 x w h)
theorem rest_ok : ∀ id' r', id' ≠ 201 → lookR [(200, rcR 0 (.own 201 2) 2 0), (202, vlR), (26, oneR 11)] id' = some r' → r'.st = 0 ∧ ∀ i j, i < r'.n → j < r'.sz → noRef (r'.f i j) = true := by
  intro id' r' _ h
  simp only [lookR] at h
  split at h
  · injection h with h
    subst h
    refine ⟨rfl, fun i j _ hj => ?_⟩
    have : AllLt 11 fun j => noRef ((rcR 0 (.own 201 2) 2 0).f 0 j) = true := ⟨⟨⟨⟨⟨⟨⟨⟨⟨⟨⟨trivial, rfl⟩, rfl⟩, rfl⟩, rfl⟩, rfl⟩, rfl⟩, rfl⟩, rfl⟩, rfl⟩, rfl⟩, rfl⟩
    exact allLt this j hj
  split at h
  · injection h with h
    subst h
    exact ⟨rfl, fun _ _ _ _ => rfl⟩
  split at h
  · injection h with h
    subst h
    exact ⟨rfl, fun _ _ _ _ => rfl⟩
  · cases h
inductive K4 where
  | k0
  | k1
  | k2
  | k3
def K4.n : K4 → Nat
  | .k0 => 0
  | .k1 => 1
  | .k2 => 2
  | .k3 => 3
def traT (out : AV) (k : Int) : List (Nat × AV) := [(0, .loc 200 0), (4, out), (12, .own 201 3), (13, .int .i64 3), (14, .int .i64 k)]
def traSt : K4 → St
  | .k0 => mkSt (traT .nilS 0) [(200, rcR 2 (.own 201 3) 4 1), (201, tkR 3 1 z4)]
  | .k1 => mkSt (traT (.own 210 1) 1) [(200, rcR 2 (.own 201 3) 4 1), (201, tkR 3 1 z4), (210, tkR 1 1 z4)]
  | .k2 => mkSt (traT (.own 210 2) 2) [(200, rcR 2 (.own 201 3) 4 1), (201, tkR 3 1 z4), (210, tkR 2 1 z4)]
  | .k3 => mkSt (traT (.own 210 3) 3) [(200, rcR 2 (.own 201 3) 4 1), (201, tkR 3 1 z4), (210, tkR 3 1 z4)]
def sAwake : Sp
  | [] => .okb true
  | _ => .no
set_option maxHeartbeats 4000000 in
theorem ok4 : EntOK Try.prog TE 4 sAwake := by
  refine ⟨callable_of Try.func4 (by kernel_rfl), fun args => ?_⟩
  unfold sAwake
  split
  · refine fn_ofI tabsOK (specOK_cons ok12 (specOK_cons ok10 specOK_nil)) (inlOK_cons newE (inlOK_cons pushE (inlOK_cons traE inlOK_nil))) mixed Try.func4 (by kernel_rfl) ?_
    refine InlP.mk ⟨[(8, .agg cfL)], [8], [], wk_of [] rfl ⟨⟨rfl, rfl⟩, trivial⟩ trivial, rfl, ?_⟩
    intro b
    refine Chk.mk ⟨rfl, rfl, rfl, rfl, rfl, rfl⟩ ?_
    refine Brn.mk (fun q => absurd q (by decide +kernel)) (fun _ => ?_)
    refine Brn.mk (fun q => absurd q (by decide +kernel)) (fun _ => ?_)
    refine Brn.mk (fun q => absurd q (by decide +kernel)) (fun _ => ?_)
    refine LoopOK.mk ⟨K6, awSt, fun k => 5 - k.n, ⟨.k0, ?_⟩, ?_⟩
    · refine wk_of [(200, some 12), (202, some 18)] rfl ⟨rfl, rfl, ⟨rfl, rfl⟩, ⟨rfl, rfl⟩, trivial⟩ ⟨RowLe.fin rfl rfl rfl rfl rfl ?_, RowLe.fin rfl rfl rfl rfl rfl ?_, trivial⟩
      all_goals (repeat' first | exact trivial | exact ⟨by kernel_rfl, by kernel_rfl⟩ | exact Or.inr (by kernel_rfl) | (show _ = _; kernel_rfl) | refine ⟨?_, ?_⟩)
    rintro (_ | _ | _ | _ | _ | _)
    · refine Brn.mk (fun _ => ?_) (fun q => absurd q (by decide +kernel))
      refine Chk.mk (by decide) ?_
      refine InlP.mk ⟨pshT 0, [24, 26], [(200, rcR 0 .nilS 0 0), (202, vlR), (26, oneR 20)], ?_, rfl, ?_⟩
      · refine wk_of [(200, some 200), (202, some 202), (26, some 26)] rfl ⟨rfl, rfl, rfl, rfl, ⟨rfl, rfl⟩, ⟨rfl, rfl⟩, trivial⟩ ⟨RowLe.fin rfl rfl rfl rfl rfl ?_, RowLe.fin rfl rfl rfl rfl rfl ?_, RowLe.fin rfl rfl rfl rfl rfl ?_, trivial⟩
        all_goals (repeat' first | exact trivial | exact ⟨by kernel_rfl, by kernel_rfl⟩ | exact Or.inr (by kernel_rfl) | (show _ = _; kernel_rfl) | refine ⟨?_, ?_⟩)
      intro b
      repeat first
        | refine Brn.mk (fun q => absurd q (by decide +kernel)) (fun _ => ?_)
        | refine Brn.mk (fun _ => ?_) (fun q => absurd q (by decide +kernel))
      refine Chk.mk ⟨rfl, rfl, rfl⟩ ?_
      refine Chk.mk ⟨by decide, by decide⟩ (Chk.mk (by kernel_rfl) ?_)
      refine Brn.mk (fun _ => ?_) (fun q => absurd q (by decide +kernel))
      refine InlP.mk ⟨[(95, .loc 200 0), (100, .int .i64 3)], [95, 100], [(200, rcR 0 (.own 201 1) 1 0), (202, vlR), (201, tkR 1 1 z1)], ?_, rfl, ?_⟩
      · refine wk_of [(200, some 200), (202, some 202), (201, some 79)] rfl ⟨rfl, ⟨rfl, rfl⟩, trivial⟩ ⟨RowLe.fin rfl rfl rfl rfl rfl ?_, RowLe.fin rfl rfl rfl rfl rfl ?_, RowLe.fin rfl rfl rfl rfl rfl ?_, trivial⟩
        all_goals (repeat' first | exact trivial | exact ⟨by kernel_rfl, by kernel_rfl⟩ | exact Or.inr (by kernel_rfl) | (show _ = _; kernel_rfl) | refine ⟨?_, ?_⟩)
      intro b
      refine Brn.mk (fun q => absurd q (by decide +kernel)) (fun _ => ?_)
      refine Brn.mk (fun q => absurd q (by decide +kernel)) (fun _ => ?_)
      refine ⟨.k1, by decide, ?_⟩
      refine wk_of [(200, some 200), (202, some 202), (201, some 201)] rfl ⟨rfl, rfl, ⟨rfl, rfl⟩, ⟨rfl, rfl⟩, trivial⟩ ⟨RowLe.fin rfl rfl rfl rfl rfl ?_, RowLe.fin rfl rfl rfl rfl rfl ?_, RowLe.fin rfl rfl rfl rfl rfl ?_, trivial⟩
      all_goals (repeat' first | exact trivial | exact ⟨by kernel_rfl, by kernel_rfl⟩ | exact Or.inr (by kernel_rfl) | (show _ = _; kernel_rfl) | refine ⟨?_, ?_⟩)
    · refine Brn.mk (fun _ => ?_) (fun q => absurd q (by decide +kernel))
      refine Chk.mk (by decide) ?_
      refine InlP.mk ⟨pshT 1, [24, 26], [(200, rcR 0 (.own 201 1) 1 0), (202, vlR), (26, oneR 5), (201, tkR 1 1 z1)], ?_, rfl, ?_⟩
      · refine wk_of [(200, some 200), (202, some 202), (26, some 26), (201, some 201)] rfl ⟨rfl, rfl, rfl, rfl, ⟨rfl, rfl⟩, ⟨rfl, rfl⟩, trivial⟩ ⟨RowLe.fin rfl rfl rfl rfl rfl ?_, RowLe.fin rfl rfl rfl rfl rfl ?_, RowLe.fin rfl rfl rfl rfl rfl ?_, RowLe.fin rfl rfl rfl rfl rfl ?_, trivial⟩
        all_goals (repeat' first | exact trivial | exact ⟨by kernel_rfl, by kernel_rfl⟩ | exact Or.inr (by kernel_rfl) | (show _ = _; kernel_rfl) | refine ⟨?_, ?_⟩)
      intro b
      repeat first
        | refine Brn.mk (fun q => absurd q (by decide +kernel)) (fun _ => ?_)
        | refine Brn.mk (fun _ => ?_) (fun q => absurd q (by decide +kernel))
      refine Chk.mk ⟨by decide, rfl, rfl, rfl, rfl, rfl, rfl⟩ ?_
      repeat first
        | refine Brn.mk (fun q => absurd q (by decide +kernel)) (fun _ => ?_)
        | refine Brn.mk (fun _ => ?_) (fun q => absurd q (by decide +kernel))
      refine Chk.mk ⟨rfl, rfl, rfl⟩ ?_
      refine Chk.mk ⟨by decide, by decide⟩ (Chk.mk (by kernel_rfl) ?_)
      refine Brn.mk (fun _ => ?_) (fun q => absurd q (by decide +kernel))
      refine InlP.mk ⟨[(95, .loc 200 0), (100, .int .i64 3)], [95, 100], [(200, rcR 0 (.own 201 2) 2 0), (202, vlR), (201, tkR 2 1 z2)], ?_, rfl, ?_⟩
      · refine wk_of [(200, some 200), (202, some 202), (201, some 79)] rfl ⟨rfl, ⟨rfl, rfl⟩, trivial⟩ ⟨RowLe.fin rfl rfl rfl rfl rfl ?_, RowLe.fin rfl rfl rfl rfl rfl ?_, RowLe.fin rfl rfl rfl rfl rfl ?_, trivial⟩
        all_goals (repeat' first | exact trivial | exact ⟨by kernel_rfl, by kernel_rfl⟩ | exact Or.inr (by kernel_rfl) | (show _ = _; kernel_rfl) | refine ⟨?_, ?_⟩)
      intro b
      refine Brn.mk (fun q => absurd q (by decide +kernel)) (fun _ => ?_)
      refine Brn.mk (fun q => absurd q (by decide +kernel)) (fun _ => ?_)
      refine ⟨.k2, by decide, ?_⟩
      refine wk_of [(200, some 200), (202, some 202), (201, some 201)] rfl ⟨rfl, rfl, ⟨rfl, rfl⟩, ⟨rfl, rfl⟩, trivial⟩ ⟨RowLe.fin rfl rfl rfl rfl rfl ?_, RowLe.fin rfl rfl rfl rfl rfl ?_, RowLe.fin rfl rfl rfl rfl rfl ?_, trivial⟩
      all_goals (repeat' first | exact trivial | exact ⟨by kernel_rfl, by kernel_rfl⟩ | exact Or.inr (by kernel_rfl) | (show _ = _; kernel_rfl) | refine ⟨?_, ?_⟩)
    · refine Brn.mk (fun _ => ?_) (fun q => absurd q (by decide +kernel))
      refine Chk.mk (by decide) ?_
      refine InlP.mk ⟨pshT 2, [24, 26], [(201, tkR 2 0 z2), (200, rcR 0 (.own 201 2) 2 0), (202, vlR), (26, oneR 11)], ?_, rfl, ?_⟩
      · refine wk_trans (b := mkSt (pshT 2) ((201, ⟨22, 1, 2, tkF z2, 1, false⟩) :: [(200, rcR 0 (.own 201 2) 2 0), (202, vlR), (26, oneR 11)])) (wk_of [(200, some 200), (202, some 202), (26, some 26), (201, some 201)] rfl ⟨rfl, rfl, rfl, rfl, ⟨rfl, rfl⟩, ⟨rfl, rfl⟩, trivial⟩ ⟨RowLe.fin rfl rfl rfl rfl rfl ?_, RowLe.fin rfl rfl rfl rfl rfl ?_, RowLe.fin rfl rfl rfl rfl rfl ?_, RowLe.fin rfl rfl rfl rfl rfl ?_, trivial⟩) (wk_thaw rfl rfl (by decide) rest_ok fun i _ => ⟨1, fun _ _ => .int .i64 (z2 i), rfl, fun k _ => ⟨z2 i, rfl⟩⟩)
        all_goals (repeat' first | exact trivial | exact ⟨by kernel_rfl, by kernel_rfl⟩ | exact Or.inr (by kernel_rfl) | (show _ = _; kernel_rfl) | refine ⟨?_, ?_⟩)
      intro b
      repeat first
        | refine Brn.mk (fun q => absurd q (by decide +kernel)) (fun _ => ?_)
        | refine Brn.mk (fun _ => ?_) (fun q => absurd q (by decide +kernel))
      refine Chk.mk ⟨by decide, rfl, rfl, rfl, rfl, rfl, rfl⟩ ?_
      repeat first
        | refine Brn.mk (fun q => absurd q (by decide +kernel)) (fun _ => ?_)
        | refine Brn.mk (fun _ => ?_) (fun q => absurd q (by decide +kernel))
      refine InlP.mk ⟨[(0, .loc 200 0), (1, .own 26 1), (50, .loc 200 0), (55, .int .i64 1)], [50, 55], [(200, rcR 0 (.own 201 2) 2 0), (202, vlR), (26, oneR 11), (201, tkR 2 0 z2)], ?_, rfl, ?_⟩
      · refine wk_of [(200, some 200), (202, some 202), (26, some 26), (201, some 201)] rfl ⟨rfl, rfl, rfl, ⟨rfl, rfl⟩, trivial⟩ ⟨RowLe.fin rfl rfl rfl rfl rfl ?_, RowLe.fin rfl rfl rfl rfl rfl ?_, RowLe.fin rfl rfl rfl rfl rfl ?_, RowLe.fin rfl rfl rfl rfl rfl ?_, trivial⟩
        all_goals (repeat' first | exact trivial | exact ⟨by kernel_rfl, by kernel_rfl⟩ | exact Or.inr (by kernel_rfl) | (show _ = _; kernel_rfl) | refine ⟨?_, ?_⟩)
      intro b
      refine Brn.mk (fun _ => ?_) (fun q => absurd q (by decide +kernel))
      refine InlP.mk ⟨[(14, .loc 200 0), (18, .own 201 2), (19, .int .i64 1)], [18, 19], [(200, rcR 0 (.own 201 2) 2 0), (202, vlR), (26, oneR 11), (201, tkR 2 0 z2)], ?_, rfl, ?_⟩
      · refine wk_of [(200, some 200), (202, some 202), (26, some 26), (201, some 201)] rfl ⟨rfl, rfl, renI (by decide), trivial⟩ ⟨RowLe.fin rfl rfl rfl rfl rfl ?_, RowLe.fin rfl rfl rfl rfl rfl ?_, RowLe.fin rfl rfl rfl rfl rfl ?_, RowLe.fin rfl rfl rfl rfl rfl ?_, trivial⟩
        all_goals (repeat' first | exact trivial | exact ⟨by kernel_rfl, by kernel_rfl⟩ | exact Or.inr (by kernel_rfl) | (show _ = _; kernel_rfl) | refine ⟨?_, ?_⟩)
      refine ⟨⟨rfl, rfl, rfl⟩, ⟨tkF z2, rfl, rfl, rfl, ?_⟩⟩
      refine Chk.mk ⟨rfl, rfl, rfl⟩ ?_
      refine Chk.mk ⟨by decide, by decide⟩ (Chk.mk (by kernel_rfl) ?_)
      repeat first
        | refine Brn.mk (fun q => absurd q (by decide +kernel)) (fun _ => ?_)
        | refine Brn.mk (fun _ => ?_) (fun q => absurd q (by decide +kernel))
      refine ⟨.k3, by decide, ?_⟩
      refine wk_of [(200, some 200), (202, some 202), (201, some 79)] rfl ⟨rfl, rfl, ⟨rfl, rfl⟩, ⟨rfl, rfl⟩, trivial⟩ ⟨RowLe.fin rfl rfl rfl rfl rfl ?_, RowLe.fin rfl rfl rfl rfl rfl ?_, RowLe.fin rfl rfl rfl rfl rfl ?_, trivial⟩
      all_goals (repeat' first | exact trivial | exact ⟨by kernel_rfl, by kernel_rfl⟩ | exact Or.inr (by kernel_rfl) | (show _ = _; kernel_rfl) | refine ⟨?_, ?_⟩)
    · refine Brn.mk (fun _ => ?_) (fun q => absurd q (by decide +kernel))
      refine Chk.mk (by decide) ?_
      refine InlP.mk ⟨pshT 3, [24, 26], [(200, rcR 1 (.own 201 2) 3 1), (202, vlR), (26, oneR 7), (201, tkR 2 1 z3)], ?_, rfl, ?_⟩
      · refine wk_of [(200, some 200), (202, some 202), (26, some 26), (201, some 201)] rfl ⟨rfl, rfl, rfl, rfl, ⟨rfl, rfl⟩, ⟨rfl, rfl⟩, trivial⟩ ⟨RowLe.fin rfl rfl rfl rfl rfl ?_, RowLe.fin rfl rfl rfl rfl rfl ?_, RowLe.fin rfl rfl rfl rfl rfl ?_, RowLe.fin rfl rfl rfl rfl rfl ?_, trivial⟩
        all_goals (repeat' first | exact trivial | exact ⟨by kernel_rfl, by kernel_rfl⟩ | exact Or.inr (by kernel_rfl) | (show _ = _; kernel_rfl) | refine ⟨?_, ?_⟩)
      intro b
      repeat first
        | refine Brn.mk (fun q => absurd q (by decide +kernel)) (fun _ => ?_)
        | refine Brn.mk (fun _ => ?_) (fun q => absurd q (by decide +kernel))
      refine Chk.mk ⟨rfl, rfl, rfl⟩ ?_
      refine Chk.mk ⟨by decide, by decide⟩ (Chk.mk (by kernel_rfl) ?_)
      repeat first
        | refine Brn.mk (fun q => absurd q (by decide +kernel)) (fun _ => ?_)
        | refine Brn.mk (fun _ => ?_) (fun q => absurd q (by decide +kernel))
      refine ⟨.k4, by decide, ?_⟩
      refine wk_of [(200, some 200), (202, some 202), (201, some 79)] rfl ⟨rfl, rfl, ⟨rfl, rfl⟩, ⟨rfl, rfl⟩, trivial⟩ ⟨RowLe.fin rfl rfl rfl rfl rfl ?_, RowLe.fin rfl rfl rfl rfl rfl ?_, RowLe.fin rfl rfl rfl rfl rfl ?_, trivial⟩
      all_goals (repeat' first | exact trivial | exact ⟨by kernel_rfl, by kernel_rfl⟩ | exact Or.inr (by kernel_rfl) | (show _ = _; kernel_rfl) | refine ⟨?_, ?_⟩)
    · refine Brn.mk (fun _ => ?_) (fun q => absurd q (by decide +kernel))
      refine Chk.mk (by decide) ?_
      refine InlP.mk ⟨pshT 4, [24, 26], [(200, rcR 2 (.own 201 3) 4 1), (202, vlR), (26, oneR 9), (201, tkR 3 1 z4)], ?_, rfl, ?_⟩
      · refine wk_of [(200, some 200), (202, some 202), (26, some 26), (201, some 201)] rfl ⟨rfl, rfl, rfl, rfl, ⟨rfl, rfl⟩, ⟨rfl, rfl⟩, trivial⟩ ⟨RowLe.fin rfl rfl rfl rfl rfl ?_, RowLe.fin rfl rfl rfl rfl rfl ?_, RowLe.fin rfl rfl rfl rfl rfl ?_, RowLe.fin rfl rfl rfl rfl rfl ?_, trivial⟩
        all_goals (repeat' first | exact trivial | exact ⟨by kernel_rfl, by kernel_rfl⟩ | exact Or.inr (by kernel_rfl) | (show _ = _; kernel_rfl) | refine ⟨?_, ?_⟩)
      intro b
      repeat first
        | refine Brn.mk (fun q => absurd q (by decide +kernel)) (fun _ => ?_)
        | refine Brn.mk (fun _ => ?_) (fun q => absurd q (by decide +kernel))
      refine ⟨.k5, by decide, ?_⟩
      refine wk_of [(200, some 200), (202, some 202), (201, some 201)] rfl ⟨rfl, rfl, ⟨rfl, rfl⟩, ⟨rfl, rfl⟩, trivial⟩ ⟨RowLe.fin rfl rfl rfl rfl rfl ?_, RowLe.fin rfl rfl rfl rfl rfl ?_, RowLe.fin rfl rfl rfl rfl rfl ?_, trivial⟩
      all_goals (repeat' first | exact trivial | exact ⟨by kernel_rfl, by kernel_rfl⟩ | exact Or.inr (by kernel_rfl) | (show _ = _; kernel_rfl) | refine ⟨?_, ?_⟩)
    · refine Brn.mk (fun q => absurd q (by decide +kernel)) (fun _ => ?_)
      refine InlP.mk ⟨[(1, .loc 200 0), (31, .loc 200 0)], [31], [(200, rcR 2 (.own 201 3) 4 1), (201, tkR 3 1 z4)], ?_, rfl, ?_⟩
      · refine wk_of [(200, some 200), (201, some 201)] rfl ⟨rfl, rfl, trivial⟩ ⟨RowLe.fin rfl rfl rfl rfl rfl ?_, RowLe.fin rfl rfl rfl rfl rfl ?_, trivial⟩
        all_goals (repeat' first | exact trivial | exact ⟨by kernel_rfl, by kernel_rfl⟩ | exact Or.inr (by kernel_rfl) | (show _ = _; kernel_rfl) | refine ⟨?_, ?_⟩)
      intro b
      refine Brn.mk (fun q => absurd q (by decide +kernel)) (fun _ => ?_)
      refine LoopOK.mk ⟨K4, traSt, fun k => 3 - k.n, ⟨.k0, ?_⟩, ?_⟩
      · refine wk_of [(200, some 200), (201, some 201)] rfl ⟨rfl, ⟨rfl, rfl⟩, rfl, ⟨rfl, rfl⟩, ⟨rfl, rfl⟩, trivial⟩ ⟨RowLe.fin rfl rfl rfl rfl rfl ?_, RowLe.fin rfl rfl rfl rfl rfl ?_, trivial⟩
        all_goals (repeat' first | exact trivial | exact ⟨by kernel_rfl, by kernel_rfl⟩ | exact Or.inr (by kernel_rfl) | (show _ = _; kernel_rfl) | refine ⟨?_, ?_⟩)
      rintro (_ | _ | _ | _)
      · refine Brn.mk (fun _ => ?_) (fun q => absurd q (by decide +kernel))
        refine Chk.mk (by decide) ?_
        refine Chk.mk ⟨rfl, rfl, rfl⟩ ?_
        refine Chk.mk ⟨by decide, by decide⟩ ?_
        refine ⟨.k1, by decide, ?_⟩
        refine wk_of [(200, some 200), (201, some 201), (210, some 22)] rfl ⟨rfl, rfl, rfl, ⟨rfl, rfl⟩, ⟨rfl, rfl⟩, trivial⟩ ⟨RowLe.fin rfl rfl rfl rfl rfl ?_, RowLe.fin rfl rfl rfl rfl rfl ?_, RowLe.fin rfl rfl rfl rfl rfl ?_, trivial⟩
        all_goals (repeat' first | exact trivial | exact ⟨by kernel_rfl, by kernel_rfl⟩ | exact Or.inr (by kernel_rfl) | (show _ = _; kernel_rfl) | refine ⟨?_, ?_⟩)
      · refine Brn.mk (fun _ => ?_) (fun q => absurd q (by decide +kernel))
        refine Chk.mk (by decide) ?_
        refine Chk.mk ⟨rfl, rfl, rfl⟩ ?_
        refine Chk.mk ⟨by decide, by decide⟩ ?_
        refine ⟨.k2, by decide, ?_⟩
        refine wk_of [(200, some 200), (201, some 201), (210, some 22)] rfl ⟨rfl, rfl, rfl, ⟨rfl, rfl⟩, ⟨rfl, rfl⟩, trivial⟩ ⟨RowLe.fin rfl rfl rfl rfl rfl ?_, RowLe.fin rfl rfl rfl rfl rfl ?_, RowLe.fin rfl rfl rfl rfl rfl ?_, trivial⟩
        all_goals (repeat' first | exact trivial | exact ⟨by kernel_rfl, by kernel_rfl⟩ | exact Or.inr (by kernel_rfl) | (show _ = _; kernel_rfl) | refine ⟨?_, ?_⟩)
      · refine Brn.mk (fun _ => ?_) (fun q => absurd q (by decide +kernel))
        refine Chk.mk (by decide) ?_
        refine Chk.mk ⟨rfl, rfl, rfl⟩ ?_
        refine Chk.mk ⟨by decide, by decide⟩ ?_
        refine ⟨.k3, by decide, ?_⟩
        refine wk_of [(200, some 200), (201, some 201), (210, some 22)] rfl ⟨rfl, rfl, rfl, ⟨rfl, rfl⟩, ⟨rfl, rfl⟩, trivial⟩ ⟨RowLe.fin rfl rfl rfl rfl rfl ?_, RowLe.fin rfl rfl rfl rfl rfl ?_, RowLe.fin rfl rfl rfl rfl rfl ?_, trivial⟩
        all_goals (repeat' first | exact trivial | exact ⟨by kernel_rfl, by kernel_rfl⟩ | exact Or.inr (by kernel_rfl) | (show _ = _; kernel_rfl) | refine ⟨?_, ?_⟩)
      · refine Brn.mk (fun q => absurd q (by decide +kernel)) (fun _ => ?_)
        refine Brn.mk (fun q => absurd q (by decide +kernel)) (fun _ => ?_)
        refine Chk.mk ⟨by decide, rfl⟩ ?_
        repeat first
          | refine Brn.mk (fun q => absurd q (by decide +kernel)) (fun _ => ?_)
          | refine Brn.mk (fun _ => ?_) (fun q => absurd q (by decide +kernel))
        refine Chk.mk ⟨⟨rfl, rfl, ⟨⟨⟨trivial, .of_eq (by kernel_rfl)⟩, .of_eq (by kernel_rfl)⟩, .of_eq (by kernel_rfl)⟩⟩, ⟨rfl, rfl, ⟨⟨⟨trivial, ?_⟩, ?_⟩, ?_⟩⟩, ⟨⟨⟨trivial, ?_⟩, ?_⟩, ?_⟩⟩ ?_
        · exact Le1.slFin rfl ⟨trivial, ⟨trivial, .of_eq (by kernel_rfl)⟩⟩
        · exact Le1.slFin rfl ⟨trivial, ⟨trivial, .of_eq (by kernel_rfl)⟩⟩
        · exact Le1.slFin rfl ⟨trivial, ⟨trivial, .of_eq (by kernel_rfl)⟩⟩
        · show _ = _; kernel_rfl
        · show _ = _; kernel_rfl
        · show _ = _; kernel_rfl
        exact AVle.bit rfl
  · trivial
end
end Go.Proofs.Ytgigipohmiopiaa.Img
