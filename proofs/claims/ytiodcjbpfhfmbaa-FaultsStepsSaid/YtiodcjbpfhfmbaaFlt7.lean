/- Chapter 48: inputs, the fixed calls. Conditions: none. -/
import Derived.Test.YtiodcjbpfhfmbaaFlt6
namespace Go.Proofs.Ytiodcjbpfhfmbaa.Img
open Go Go.Proofs.Ytiodcjbpfhfmbaa.AI Go.Proofs
noncomputable section
set_option maxRecDepth 100000
def sValid : Sp
  | [.sl s n f, .sl _ m _] => .pre (IsR s n f) (.bit (decide ((n : Int) ≤ 100) && (decide ((m : Int) ≤ 300) && decide (rchk n (vI f) = 0))))
  | _ => .no
theorem ok21 : EntOK Try.prog TE 21 sValid := by
  refine ⟨callable_of Try.func21 (by kernel_rfl), fun args => ?_⟩
  unfold sValid
  split
  · rename_i s n f s2 m g
    intro hf
    refine FnOK.args (m := [.sl 2 n (rulF (vI f) (vL f)), .sl s2 m g]) ?_ ⟨le2_sl hf.le1, fun _ _ _ h => h, trivial⟩
    generalize vI f = r
    generalize vL f = l
    refine fn_ofF tabsOK (specOK_cons ok14 (specOK_cons ok11 specOK_nil)) mixed Try.func21 (by kernel_rfl) ?_
    refine Brn.mk (fun h1 => ?_) (fun h1 => AVle.bit ?_)
    · have h1 : decide ((n : Int) ≤ 100) = true := h1
      have hn := of_decide_eq_true h1
      refine Brn.mk (fun h2 => ?_) (fun h2 => AVle.bit ?_)
      · have h2 : decide ((m : Int) ≤ 300) = true := h2
        refine Chk.mk ⟨isR_mk, by omega⟩ ?_
        refine Brn.mk (fun h3 => ?_) (fun h3 => AVle.bit ?_)
        · have h3 : decide (rchk n r = 0) = true := h3
          refine Chk.mk ⟨isR_mk, by omega⟩ (AVle.bit ?_)
          rw [h1, h2, Bool.true_and, Bool.true_and]; rfl
        · have h3 : decide (rchk n r = 0) = false := h3
          rw [h1, h2, h3]; rfl
      · have h2 : decide ((m : Int) ≤ 300) = false := h2
        rw [h1, h2]; rfl
    · have h1 : decide ((n : Int) ≤ 100) = false := h1
      rw [h1]; rfl
  · trivial
/-- Bit i of a tick's faults. -/
def bw (w : Int) (i : Nat) : Bool := decide (uand (w.fdiv (2 ^ (min i 32))) 1 = 1)
def sInput : Sp
  | [.agg [.int .u32 w, .bit p, .bit q], .int .i64 n] => .pre (0 ≤ n ∧ n ≤ 1000) (.agg [.sl 1 n.toNat (bitF (bw w)), .bit p, .bit q])
  | _ => .no
theorem ok22 : EntOK Try.prog TE 22 sInput := by
  refine ⟨callable_of Try.func22 (by kernel_rfl), fun args => ?_⟩
  unfold sInput
  split
  · rename_i w p q n
    rintro ⟨n0, n1⟩
    obtain ⟨N, rfl⟩ : ∃ N : Nat, n = N := ⟨n.toNat, by omega⟩
    rw [Int.toNat_natCast]
    refine fn_ofF tabsOK specOK_nil mixed Try.func22 (by kernel_rfl) ?_
    refine LoopOK.mk ⟨{ i : Nat // i ≤ N }, fun i => mkSt [(1, .int .i64 N), (2, .loc 2 0), (4, .loc 4 0), (5, .loc 5 0), (6, .int .i64 i.1)]
      [(2, ⟨49, 3, 1, fun _ j => nth [.int .u32 w, .bit p, .bit q] j, 0, true⟩), (4, ⟨39, 3, 1, fun _ j => nth [.nilS, .bit false, .bit false] j, 0, true⟩),
       (5, ⟨39, 3, 1, fun _ j => nth [.own 100 i.1, .bit p, .bit q] j, 0, true⟩), (100, ⟨4, 1, i.1, fun k _ => .bit (bw w k), 1, false⟩)], fun i => N - i.1, ⟨⟨0, by omega⟩, ?_⟩, ?_⟩
    · refine wk_of [(2, some 2), (4, some 4), (5, some 5), (100, none)] rfl ⟨⟨rfl, rfl⟩, rfl, rfl, rfl, ⟨rfl, rfl⟩, trivial⟩ ⟨RowLe.fin rfl rfl rfl rfl rfl ?_, RowLe.fin rfl rfl rfl rfl rfl ?_, RowLe.fin rfl rfl rfl rfl rfl ?_, ⟨rfl, rfl, rfl⟩, trivial⟩
      all_goals (repeat' first | exact trivial | exact ⟨by kernel_rfl, by kernel_rfl⟩ | exact Or.inr (by kernel_rfl) | (show _ = _; kernel_rfl) | refine ⟨?_, ?_⟩)
    rintro ⟨i, hi⟩
    have hi : i ≤ N := hi
    refine Brn.mk (fun h1 => ?_) (fun h1 => ?_)
    · have h1 : (i : Int) < N := of_decide_eq_true h1
      refine Chk.mk (Int.natCast_nonneg i) ?_
      refine Chk.mk ⟨(show (i + 1) * 1 ≤ 140737488355328 by omega), (show i + 1 ≤ 9223372036854775807 by omega)⟩ (Chk.mk (by kernel_rfl) ?_)
      refine ⟨⟨i + 1, by omega⟩, by show N - (i + 1) < N - i; omega, ?_⟩
      refine wk_of [(2, some 2), (4, some 4), (5, some 5), (100, some 26)] rfl ⟨⟨rfl, rfl⟩, rfl, rfl, rfl, ⟨wrS (i := i) (by omega), rfl⟩, trivial⟩ ⟨RowLe.fin rfl rfl rfl rfl rfl ?_, RowLe.fin rfl rfl rfl rfl rfl ?_, RowLe.fin rfl rfl rfl rfl rfl ?_, RowLe.app (n := i) (fun k => .bit (bw w k)) rfl rfl rfl (fun _ _ => rfl) rfl, trivial⟩
      all_goals (repeat' first | exact trivial | exact ⟨by kernel_rfl, by kernel_rfl⟩ | exact Or.inr (by kernel_rfl) | (show _ = _; kernel_rfl) | refine ⟨?_, ?_⟩)
    · have h1 : ¬ (i : Int) < N := of_decide_eq_false h1
      have : i = N := by omega
      subst this
      exact AVle.of_agg (.aggL ⟨.sl rfl fun a b _ _ => .refl, .refl, .refl, trivial⟩)
  · trivial
def exR (i : Nat) : Int := if i = 0 then 2 else if i = 1 then 4 else 1
def exL (i : Nat) : Bool := decide (i = 0)
def sEx : Sp
  | [] => .ok (.sl 2 3 (rulF exR exL))
  | _ => .no
theorem ok27 : EntOK Try.prog TE 27 sEx := by
  refine ⟨callable_of Try.func27 (by kernel_rfl), fun args => ?_⟩
  unfold sEx
  split
  · refine fn_ofF tabsOK specOK_nil mixed Try.func27 (by kernel_rfl) ?_
    refine .of2 rfl rfl (le2_sl (Le1.slFin rfl ⟨⟨⟨trivial, ?_⟩, ?_⟩, ?_⟩))
    all_goals exact ⟨⟨trivial, .of_eq (by kernel_rfl)⟩, .of_eq (by kernel_rfl)⟩
  · trivial
/-- The tick, with the slices' values at hand. -/
def sStep2 : Sp
  | [.sl s n f, .agg [.sl sa na fa, .sl sh nh fh, .int .i64 re, .int .i64 tk, .sl sg k fg], .agg [.sl sw nn fw, .bit p, .bit q]] => .pre (RulOK s n f ∧ StOK (.sl sa na fa) (.sl sh nh fh) (.sl sg k fg) ∧ InOK (.sl sw nn fw))
      (.tup [.agg (stpL n (vI f) (vL f) na nh (vB fa) (vB fh) re tk k (vI fg) (vJ fg) nn (vB fw) p q), .err (stpE n (vI f) na nh re tk k nn)])
  | _ => .no
theorem ok18b : EntOK Try.prog TE 18 sStep2 := by
  refine ⟨ok18.call, fun args => ?_⟩
  unfold sStep2
  split
  · rename_i s n f sa na fa sh nh fh re tk sg k fg sw nn fw p q
    exact ok18.ok [.sl s n f, .agg [.sl sa na fa, .sl sh nh fh, .int .i64 re, .int .i64 tk, .sl sg k fg], .agg [.sl sw nn fw, .bit p, .bit q]]
  · trivial
def sAwake : Sp
  | [] => .okb true
  | _ => .no
def exN (i : Nat) : Bool := decide (¬ i = 1)
set_option maxHeartbeats 4000000 in
theorem ok10 : EntOK Try.prog TE 10 sAwake := by
  refine ⟨callable_of Try.func10 (by kernel_rfl), fun args => ?_⟩
  unfold sAwake
  split
  · refine fn_ofF tabsOK (specOK_cons ok27 (specOK_cons ok12 (specOK_cons ok18b specOK_nil))) mixed Try.func10 (by kernel_rfl) ?_
    refine Chk.mk ⟨isR_mk, by decide⟩ ?_
    refine Chk.mk ⟨⟨isR_mk, by decide⟩, ⟨isB_mk, isB_mk, isE_mk, zN_le (fun _ => by decide), zN_le (fun _ => by decide), Nat.zero_le _⟩, ⟨isB_fin exN rfl ⟨⟨⟨trivial, by show _ = _; kernel_rfl⟩, by show _ = _; kernel_rfl⟩, by show _ = _; kernel_rfl⟩, (show (3 : Nat) ≤ 1000 by decide)⟩⟩ ?_
    try refine Chk.mk (by kernel_rfl) ?_
    refine Chk.mk ⟨⟨isR_mk, by decide⟩, stOK_mk (zN_le (fun _ => by decide)) (zN_le (fun _ => by decide)) (zN_le (fun _ => by unfold lgC; split <;> omega)), ⟨isB_fin exN rfl ⟨⟨⟨trivial, by show _ = _; kernel_rfl⟩, by show _ = _; kernel_rfl⟩, by show _ = _; kernel_rfl⟩, (show (3 : Nat) ≤ 1000 by decide)⟩⟩ ?_
    try refine Chk.mk (by kernel_rfl) ?_
    repeat first
      | refine Brn.mk (fun h => absurd h (by decide +kernel)) (fun _ => ?_)
      | refine Brn.mk (fun _ => ?_) (fun h => absurd h (by decide +kernel))
    refine AVle.bit ?_
    decide +kernel
  · trivial
end
end Go.Proofs.Ytiodcjbpfhfmbaa.Img
