/- A drill's signals. Conditions: none. -/
import Derived.Test.YtbhbjmneglkgnaaTop6
namespace Go.Proofs.Ytbhbjmneglkgnaa.Img
open Go Go.Proofs.Ytbhbjmneglkgnaa.AI Go.Proofs
noncomputable section
set_option maxRecDepth 100000
structure DrlP (a b c d e f : Int) : Prop where
  a : a = 0
  b : b = 0
  c : c = 0
  d : d = 50
  e : e = 50
  f : f = 50
def offC (b : Bool) : List AV := match b with
  | true => [.int .i64 100, .bit false, .bit false, .bit false, .bit false, .bit false, .bit false, .nilS]
  | false => bad8
def sSig : Sp
  | [.agg [.int .u8 a, .int .u8 b, .int .u8 c, .int .u8 d, .int .u8 e, .int .u8 f, .int .i8 _, .int .i8 _, .int .u8 _], .agg [.int .i64 a', .int .i64 b', .int .i64 c', .int .i64 d', .int .i64 e', .int .i64 f'], .bit off] =>
    .pre (DrlP a b c d e f ∧ FreshL a' b' c' d' e' f') (.tup [.agg (offC off), .agg bad6, .err 0])
  | _ => .no
def drL (g h i : Int) : List AV := [.int .u8 0, .int .u8 0, .int .u8 0, .int .u8 50, .int .u8 50, .int .u8 50, .int .i8 g, .int .i8 h, .int .u8 i]
def sigSt (g h j : Int) (l : List AV) (i : Int) : St := mkSt [(3, .loc 3 0), (4, .loc 4 0), (6, .loc 6 0), (7, .loc 7 0), (9, .loc 9 0), (15, .int .i64 i)]
  [(3, ⟨67, 9, 1, fun _ j' => nth (drL g h j) j', 0, true⟩), (4, ⟨62, 6, 1, fun _ j => nth frL j, 0, true⟩), (6, ⟨59, 8, 1, fun _ j => nth gz j, 0, true⟩), (7, ⟨62, 6, 1, fun _ j => nth z6 j, 0, true⟩), (9, ⟨97, 6, 1, fun _ j => nth l j, 0, true⟩)]
def lgK (i : Nat) : List AV := match i with
  | 0 => z6
  | 1 => [.int .i64 0, .int .i64 50, .int .i64 0, .int .i64 0, .int .i64 0, .int .i64 0]
  | 2 => [.int .i64 0, .int .i64 50, .int .i64 0, .int .i64 50, .int .i64 0, .int .i64 0]
  | _ => lgP
def sigK (g h j : Int) : K4 → St
  | .k0 => sigSt g h j (lgK 0) 0
  | .k1 => sigSt g h j (lgK 1) 1
  | .k2 => sigSt g h j (lgK 2) 2
  | .k3 => sigSt g h j (lgK 3) 3
set_option maxHeartbeats 4000000 in
theorem ok15 : EntOK Try.prog TE 15 sSig := by
  refine ⟨callable_of Try.func15 (by kernel_rfl), fun args => ?_⟩
  unfold sSig
  split
  · rename_i a b c d e f g h j a' b' c' d' e' f' off
    rintro ⟨⟨rfl, rfl, rfl, rfl, rfl, rfl⟩, rfl, rfl, rfl, rfl, rfl, rfl⟩
    have fr : FreshL 0 4096 0 4096 0 4096 := ⟨rfl, rfl, rfl, rfl, rfl, rfl⟩
    refine fn_ofF tabsOK (specOK_cons ok29 (specOK_cons ok30 specOK_nil)) mixed Try.func15 (by kernel_rfl) ?_
    cases off with
    | true =>
      refine Brn.mk (fun _ => ?_) (fun q => absurd (show true = false from q) (by decide))
      refine Chk.mk fr ?_
      exact AVle.tup3 (.agg rfl) (.aggL ⟨.bad, .bad, .bad, .bad, .bad, .bad, trivial⟩) (.nilErr rfl)
    | false =>
      refine Brn.mk (fun q => absurd (show false = true from q) (by decide)) (fun _ => ?_)
      have i0 : (0 : Int) ≤ 0 ∧ (0 : Int) < 3 := by decide
      have i1 : (0 : Int) ≤ 1 ∧ (1 : Int) < 3 := by decide
      have i2 : (0 : Int) ≤ 2 ∧ (2 : Int) < 3 := by decide
      refine LoopOK.mk ⟨K4, sigK g h j, fun k => 3 - k.n, ⟨.k0, ?_⟩, ?_⟩
      · refine wk_of [(3, some 3), (4, some 4), (6, some 6), (7, some 7), (9, some 9)] rfl ⟨rfl, rfl, rfl, rfl, rfl, ⟨rfl, rfl⟩, trivial⟩ ⟨RowLe.fin rfl rfl rfl rfl rfl ?_, RowLe.fin rfl rfl rfl rfl rfl ?_, RowLe.fin rfl rfl rfl rfl rfl ?_, RowLe.fin rfl rfl rfl rfl rfl ?_, RowLe.fin rfl rfl rfl rfl rfl ?_, trivial⟩
        all_goals (repeat' first | exact trivial | exact ⟨by kernel_rfl, by kernel_rfl⟩ | exact Or.inr (by kernel_rfl) | (show _ = _; kernel_rfl) | refine ⟨?_, ?_⟩)
      rintro (_ | _ | _ | _)
      · refine Brn.mk (fun _ => ?_) (fun q => absurd q (by decide +kernel))
        repeat first | refine Chk.mk i0 ?_ | refine Chk.mk (by kernel_rfl) ?_ | refine Chk.mk (by decide) ?_
        refine ⟨.k1, by decide, ?_⟩
        refine wk_of [(3, some 3), (4, some 4), (6, some 6), (7, some 7), (9, some 9)] rfl ⟨rfl, rfl, rfl, rfl, rfl, ⟨rfl, rfl⟩, trivial⟩ ⟨RowLe.fin rfl rfl rfl rfl rfl ?_, RowLe.fin rfl rfl rfl rfl rfl ?_, RowLe.fin rfl rfl rfl rfl rfl ?_, RowLe.fin rfl rfl rfl rfl rfl ?_, RowLe.fin rfl rfl rfl rfl rfl ?_, trivial⟩
        all_goals (repeat' first | exact trivial | exact ⟨by kernel_rfl, by kernel_rfl⟩ | exact Or.inr (by kernel_rfl) | (show _ = _; kernel_rfl) | refine ⟨?_, ?_⟩)
      · refine Brn.mk (fun _ => ?_) (fun q => absurd q (by decide +kernel))
        repeat first | refine Chk.mk i1 ?_ | refine Chk.mk (by kernel_rfl) ?_ | refine Chk.mk (by decide) ?_
        refine ⟨.k2, by decide, ?_⟩
        refine wk_of [(3, some 3), (4, some 4), (6, some 6), (7, some 7), (9, some 9)] rfl ⟨rfl, rfl, rfl, rfl, rfl, ⟨rfl, rfl⟩, trivial⟩ ⟨RowLe.fin rfl rfl rfl rfl rfl ?_, RowLe.fin rfl rfl rfl rfl rfl ?_, RowLe.fin rfl rfl rfl rfl rfl ?_, RowLe.fin rfl rfl rfl rfl rfl ?_, RowLe.fin rfl rfl rfl rfl rfl ?_, trivial⟩
        all_goals (repeat' first | exact trivial | exact ⟨by kernel_rfl, by kernel_rfl⟩ | exact Or.inr (by kernel_rfl) | (show _ = _; kernel_rfl) | refine ⟨?_, ?_⟩)
      · refine Brn.mk (fun _ => ?_) (fun q => absurd q (by decide +kernel))
        repeat first | refine Chk.mk i2 ?_ | refine Chk.mk (by kernel_rfl) ?_ | refine Chk.mk (by decide) ?_
        refine ⟨.k3, by decide, ?_⟩
        refine wk_of [(3, some 3), (4, some 4), (6, some 6), (7, some 7), (9, some 9)] rfl ⟨rfl, rfl, rfl, rfl, rfl, ⟨rfl, rfl⟩, trivial⟩ ⟨RowLe.fin rfl rfl rfl rfl rfl ?_, RowLe.fin rfl rfl rfl rfl rfl ?_, RowLe.fin rfl rfl rfl rfl rfl ?_, RowLe.fin rfl rfl rfl rfl rfl ?_, RowLe.fin rfl rfl rfl rfl rfl ?_, trivial⟩
        all_goals (repeat' first | exact trivial | exact ⟨by kernel_rfl, by kernel_rfl⟩ | exact Or.inr (by kernel_rfl) | (show _ = _; kernel_rfl) | refine ⟨?_, ?_⟩)
      · refine Brn.mk (fun q => absurd q (by decide +kernel)) (fun _ => ?_)
        refine Chk.mk ⟨fr, ⟨rfl, rfl, rfl, rfl, rfl, rfl⟩, rfl, rfl, rfl⟩ ?_
        exact AVle.tup3 (.agg rfl) (.agg rfl) (.err rfl)
  · trivial
end
end Go.Proofs.Ytbhbjmneglkgnaa.Img
