/- Chapter 24: the signals of a period. Conditions: none. -/
import Derived.Test.YtbhbjmneglkgnaaTop5
namespace Go.Proofs.Ytbhbjmneglkgnaa.Img
open Go Go.Proofs.Ytbhbjmneglkgnaa.AI Go.Proofs
noncomputable section
set_option maxRecDepth 100000
def z6 : List AV := [.int .i64 0, .int .i64 0, .int .i64 0, .int .i64 0, .int .i64 0, .int .i64 0]
def sOff : Sp
  | [.agg [.int .i64 a, .int .i64 b, .int .i64 c, .int .i64 d, .int .i64 e, .int .i64 f]] => .pre (FreshL a b c d e f) (.agg frL)
  | _ => .no
def offSt (i : Int) : St := mkSt [(1, .loc 1 0), (2, .loc 2 0), (4, .int .i64 i)] [(1, ⟨62, 6, 1, fun _ j => nth frL j, 0, true⟩), (2, ⟨62, 6, 1, fun _ j => nth z6 j, 0, true⟩)]
theorem RowLe.forget {s : Nat → Option (Option Nat)} {row row' : Row} (he : row'.e = row.e) (hs : row'.sz = row.sz) (hn : row'.n = row.n) (hb : row'.bx = row.bx) (hst : stB row.st row'.st = true) (hf : ∀ i j, row'.f i j = .bad := by exact fun _ _ => rfl) : RowLe s row row' :=
  ⟨he, hs, hn, hb, hst, fun i j _ _ => by
    rw [hf]
    cases row.bx with
    | true => trivial
    | false => exact .inl rfl⟩
def K4.st (f : Int → St) : K4 → St
  | .k0 => f 0
  | .k1 => f 1
  | .k2 => f 2
  | .k3 => f 3
theorem ok29 : EntOK Try.prog TE 29 sOff := by
  refine ⟨callable_of Try.func29 (by kernel_rfl), fun args => ?_⟩
  unfold sOff
  split
  · rintro ⟨rfl, rfl, rfl, rfl, rfl, rfl⟩
    refine fn_ofF tabsOK specOK_nil mixed Try.func29 (by kernel_rfl) ?_
    refine LoopOK.mk ⟨K4, K4.st offSt, fun k => 3 - k.n, ⟨.k0, ?_⟩, ?_⟩
    · refine wk_of [(1, some 1), (2, some 2)] rfl ⟨rfl, rfl, ⟨rfl, rfl⟩, trivial⟩ ⟨RowLe.fin rfl rfl rfl rfl rfl ?_, RowLe.fin rfl rfl rfl rfl rfl ?_, trivial⟩
      all_goals (repeat' first | exact trivial | exact ⟨by kernel_rfl, by kernel_rfl⟩ | exact Or.inr (by kernel_rfl) | (show _ = _; kernel_rfl) | refine ⟨?_, ?_⟩)
    have i0 : (0 : Int) ≤ 0 ∧ (0 : Int) < 3 := by decide
    have i1 : (0 : Int) ≤ 1 ∧ (1 : Int) < 3 := by decide
    have i2 : (0 : Int) ≤ 2 ∧ (2 : Int) < 3 := by decide
    rintro (_ | _ | _ | _)
    · refine Brn.mk (fun _ => ?_) (fun q => absurd q (by decide +kernel))
      refine Chk.mk i0 ?_
      refine Brn.mk (fun q => absurd q (by decide +kernel)) (fun _ => ?_)
      refine Chk.mk i0 ?_
      refine Brn.mk (fun q => absurd q (by decide +kernel)) (fun _ => ?_)
      refine Chk.mk i0 ?_
      refine ⟨.k1, by decide, ?_⟩
      refine wk_of [(1, some 1), (2, some 2)] rfl ⟨rfl, rfl, ⟨rfl, rfl⟩, trivial⟩ ⟨RowLe.fin rfl rfl rfl rfl rfl ?_, RowLe.fin rfl rfl rfl rfl rfl ?_, trivial⟩
      all_goals (repeat' first | exact trivial | exact ⟨by kernel_rfl, by kernel_rfl⟩ | exact Or.inr (by kernel_rfl) | (show _ = _; kernel_rfl) | refine ⟨?_, ?_⟩)
    · refine Brn.mk (fun _ => ?_) (fun q => absurd q (by decide +kernel))
      refine Chk.mk i1 ?_
      refine Brn.mk (fun q => absurd q (by decide +kernel)) (fun _ => ?_)
      refine Chk.mk i1 ?_
      refine Brn.mk (fun q => absurd q (by decide +kernel)) (fun _ => ?_)
      refine Chk.mk i1 ?_
      refine ⟨.k2, by decide, ?_⟩
      refine wk_of [(1, some 1), (2, some 2)] rfl ⟨rfl, rfl, ⟨rfl, rfl⟩, trivial⟩ ⟨RowLe.fin rfl rfl rfl rfl rfl ?_, RowLe.fin rfl rfl rfl rfl rfl ?_, trivial⟩
      all_goals (repeat' first | exact trivial | exact ⟨by kernel_rfl, by kernel_rfl⟩ | exact Or.inr (by kernel_rfl) | (show _ = _; kernel_rfl) | refine ⟨?_, ?_⟩)
    · refine Brn.mk (fun _ => ?_) (fun q => absurd q (by decide +kernel))
      refine Chk.mk i2 ?_
      refine Brn.mk (fun q => absurd q (by decide +kernel)) (fun _ => ?_)
      refine Chk.mk i2 ?_
      refine Brn.mk (fun q => absurd q (by decide +kernel)) (fun _ => ?_)
      refine Chk.mk i2 ?_
      refine ⟨.k3, by decide, ?_⟩
      refine wk_of [(1, some 1), (2, some 2)] rfl ⟨rfl, rfl, ⟨rfl, rfl⟩, trivial⟩ ⟨RowLe.fin rfl rfl rfl rfl rfl ?_, RowLe.fin rfl rfl rfl rfl rfl ?_, trivial⟩
      all_goals (repeat' first | exact trivial | exact ⟨by kernel_rfl, by kernel_rfl⟩ | exact Or.inr (by kernel_rfl) | (show _ = _; kernel_rfl) | refine ⟨?_, ?_⟩)
    · refine Brn.mk (fun q => absurd q (by decide +kernel)) (fun _ => ?_)
      exact AVle.agg rfl
  · trivial
structure LegsP (a b c d e f : Int) : Prop where
  a : a = 0
  b : b = 50
  c : c = 0
  d : d = 50
  e : e = 0
  f : f = 50
def lgP : List AV := [.int .i64 0, .int .i64 50, .int .i64 0, .int .i64 50, .int .i64 0, .int .i64 50]
def bad8 : List AV := [.bad, .bad, .bad, .bad, .bad, .bad, .bad, .bad]
def sRun : Sp
  | [.agg [.int .i64 a, .int .i64 b, .int .i64 c, .int .i64 d, .int .i64 e, .int .i64 f], .agg [.int .i64 a', .int .i64 b', .int .i64 c', .int .i64 d', .int .i64 e', .int .i64 f'], .int .i64 p, .int .i64 q, .int .i64 r] =>
    .pre (FreshL a b c d e f ∧ LegsP a' b' c' d' e' f' ∧ p = 100 ∧ q = 3 ∧ r = 100) (.tup [.agg bad8, .agg bad6, .err 0])
  | _ => .no
def gz : List AV := [.int .i64 0, .bit false, .bit false, .bit false, .bit false, .bit false, .bit false, .nilS]
def runT (l : List (Nat × AV)) : List (Nat × AV) := (2, .int .i64 100) :: (3, .int .i64 3) :: (4, .int .i64 100) :: (5, .loc 5 0) :: (6, .loc 6 0) :: (10, .loc 10 0) :: (11, .loc 11 0) :: l
def runR (s : List AV) (l : List (Nat × Row)) : List (Nat × Row) := (5, ⟨62, 6, 1, fun _ j => nth s j, 0, true⟩) :: (6, ⟨97, 6, 1, fun _ j => nth lgP j, 0, true⟩) :: (10, ⟨59, 8, 1, fun _ j => nth gz j, 0, true⟩) :: (11, ⟨62, 6, 1, fun _ j => nth z6 j, 0, true⟩) :: l
def run1 (i : Int) : St := mkSt (runT [(34, .agg lgP), (35, .int .i64 i)]) (runR frL [])
/-- Legs: sides and idle times. -/
structure LG where
  a : Int
  b : Int
  c : Int
  d : Int
  e : Int
  f : Int
def LG.l (x : LG) : List AV := [.int .i64 x.a, .int .i64 x.b, .int .i64 x.c, .int .i64 x.d, .int .i64 x.e, .int .i64 x.f]
def edR (k : Nat) : List (Nat × Row) := [(15, ⟨59, 8, 1, fun _ j => nth [.int .i64 100, .bad, .bad, .bad, .bad, .bad, .bad, .own 200 k] j, 0, true⟩), (200, ⟨101, 3, k, fun _ _ => .bad, 1, false⟩)]
def run2 (t : Nat) (x : LG) (k : Nat) : St := mkSt (runT [(15, .loc 15 0), (62, .int .i64 100), (63, .int .i64 t)]) (runR x.l (edR k))
def run3 (t : Nat) (x : LG) (k : Nat) (i : Int) : St := mkSt (runT [(15, .loc 15 0), (62, .int .i64 100), (63, .int .i64 t), (16, .int .i64 t), (66, .int .i64 i)]) (runR x.l (edR k))
set_option maxHeartbeats 8000000 in
theorem ok30 : EntOK Try.prog TE 30 sRun := by
  refine ⟨callable_of Try.func30 (by kernel_rfl), fun args => ?_⟩
  unfold sRun
  split
  · rintro ⟨⟨rfl, rfl, rfl, rfl, rfl, rfl⟩, ⟨rfl, rfl, rfl, rfl, rfl, rfl⟩, rfl, rfl, rfl⟩
    refine fn_ofF tabsOK (specOK_cons ok39 (specOK_cons ok40 (specOK_cons ok41b (specOK_cons ok42 (specOK_cons ok43 specOK_nil))))) mixed Try.func30 (by kernel_rfl) ?_
    refine Chk.mk ⟨⟨rfl, rfl, rfl, rfl, rfl, rfl⟩, rfl, rfl⟩ ?_
    refine Brn.mk (fun q => absurd q (by decide +kernel)) (fun _ => ?_)
    try refine Brn.mk (fun q => absurd q (by decide +kernel)) (fun _ => ?_)
    have i0 : (0 : Int) ≤ 0 ∧ (0 : Int) < 3 := by decide
    have i1 : (0 : Int) ≤ 1 ∧ (1 : Int) < 3 := by decide
    have i2 : (0 : Int) ≤ 2 ∧ (2 : Int) < 3 := by decide
    refine LoopOK.mk ⟨K4, K4.st run1, fun k => 3 - k.n, ⟨.k0, ?_⟩, ?_⟩
    · refine wk_of [(5, some 5), (6, some 6), (10, some 10), (11, some 11)] rfl ⟨⟨rfl, rfl⟩, ⟨rfl, rfl⟩, ⟨rfl, rfl⟩, rfl, rfl, rfl, rfl, ⟨rfl, rfl⟩, ⟨rfl, rfl⟩, trivial⟩ ⟨RowLe.fin rfl rfl rfl rfl rfl ?_, RowLe.fin rfl rfl rfl rfl rfl ?_, RowLe.fin rfl rfl rfl rfl rfl ?_, RowLe.fin rfl rfl rfl rfl rfl ?_, trivial⟩
      all_goals (repeat' first | exact trivial | exact ⟨by kernel_rfl, by kernel_rfl⟩ | exact Or.inr (by kernel_rfl) | (show _ = _; kernel_rfl) | refine ⟨?_, ?_⟩)
    rintro (_ | _ | _ | _)
    · refine Brn.mk (fun _ => ?_) (fun q => absurd q (by decide +kernel))
      refine Chk.mk i0 ?_
      repeat refine Brn.mk (fun q => absurd q (by decide +kernel)) (fun _ => ?_)
      refine ⟨.k1, by decide, ?_⟩
      refine wk_of [(5, some 5), (6, some 6), (10, some 10), (11, some 11)] rfl ⟨⟨rfl, rfl⟩, ⟨rfl, rfl⟩, ⟨rfl, rfl⟩, rfl, rfl, rfl, rfl, ⟨rfl, rfl⟩, ⟨rfl, rfl⟩, trivial⟩ ⟨RowLe.fin rfl rfl rfl rfl rfl ?_, RowLe.fin rfl rfl rfl rfl rfl ?_, RowLe.fin rfl rfl rfl rfl rfl ?_, RowLe.fin rfl rfl rfl rfl rfl ?_, trivial⟩
      all_goals (repeat' first | exact trivial | exact ⟨by kernel_rfl, by kernel_rfl⟩ | exact Or.inr (by kernel_rfl) | (show _ = _; kernel_rfl) | refine ⟨?_, ?_⟩)
    · refine Brn.mk (fun _ => ?_) (fun q => absurd q (by decide +kernel))
      refine Chk.mk i1 ?_
      repeat refine Brn.mk (fun q => absurd q (by decide +kernel)) (fun _ => ?_)
      refine ⟨.k2, by decide, ?_⟩
      refine wk_of [(5, some 5), (6, some 6), (10, some 10), (11, some 11)] rfl ⟨⟨rfl, rfl⟩, ⟨rfl, rfl⟩, ⟨rfl, rfl⟩, rfl, rfl, rfl, rfl, ⟨rfl, rfl⟩, ⟨rfl, rfl⟩, trivial⟩ ⟨RowLe.fin rfl rfl rfl rfl rfl ?_, RowLe.fin rfl rfl rfl rfl rfl ?_, RowLe.fin rfl rfl rfl rfl rfl ?_, RowLe.fin rfl rfl rfl rfl rfl ?_, trivial⟩
      all_goals (repeat' first | exact trivial | exact ⟨by kernel_rfl, by kernel_rfl⟩ | exact Or.inr (by kernel_rfl) | (show _ = _; kernel_rfl) | refine ⟨?_, ?_⟩)
    · refine Brn.mk (fun _ => ?_) (fun q => absurd q (by decide +kernel))
      refine Chk.mk i2 ?_
      repeat refine Brn.mk (fun q => absurd q (by decide +kernel)) (fun _ => ?_)
      refine ⟨.k3, by decide, ?_⟩
      refine wk_of [(5, some 5), (6, some 6), (10, some 10), (11, some 11)] rfl ⟨⟨rfl, rfl⟩, ⟨rfl, rfl⟩, ⟨rfl, rfl⟩, rfl, rfl, rfl, rfl, ⟨rfl, rfl⟩, ⟨rfl, rfl⟩, trivial⟩ ⟨RowLe.fin rfl rfl rfl rfl rfl ?_, RowLe.fin rfl rfl rfl rfl rfl ?_, RowLe.fin rfl rfl rfl rfl rfl ?_, RowLe.fin rfl rfl rfl rfl rfl ?_, trivial⟩
      all_goals (repeat' first | exact trivial | exact ⟨by kernel_rfl, by kernel_rfl⟩ | exact Or.inr (by kernel_rfl) | (show _ = _; kernel_rfl) | refine ⟨?_, ?_⟩)
    · refine Brn.mk (fun q => absurd q (by decide +kernel)) (fun _ => ?_)
      refine LoopOK.mk ⟨{ p : Nat × LG × Nat // p.1 ≤ 100 ∧ p.2.2 ≤ 3 * p.1 }, fun p => run2 p.1.1 p.1.2.1 p.1.2.2, fun p => 100 - p.1.1, ⟨⟨(0, ⟨0, 4096, 0, 4096, 0, 4096⟩, 0), by decide, by decide⟩, ?_⟩, ?_⟩
      · refine wk_of [(5, some 5), (6, some 6), (10, some 10), (11, some 11), (15, some 15), (200, none)] rfl ⟨⟨rfl, rfl⟩, ⟨rfl, rfl⟩, ⟨rfl, rfl⟩, rfl, rfl, rfl, rfl, rfl, ⟨rfl, rfl⟩, ⟨rfl, rfl⟩, trivial⟩ ⟨RowLe.fin rfl rfl rfl rfl rfl ?_, RowLe.fin rfl rfl rfl rfl rfl ?_, RowLe.fin rfl rfl rfl rfl rfl ?_, RowLe.fin rfl rfl rfl rfl rfl ?_, RowLe.fin rfl rfl rfl rfl rfl ?_, ⟨rfl, rfl, rfl⟩, trivial⟩
        all_goals (repeat' first | exact trivial | exact ⟨by kernel_rfl, by kernel_rfl⟩ | exact Or.inr (by kernel_rfl) | (show _ = _; kernel_rfl) | refine ⟨?_, ?_⟩)
      rintro ⟨⟨t, x, k⟩, ht, hk⟩
      have ht : t ≤ 100 := ht
      have hk : k ≤ 3 * t := hk
      refine Brn.mk (fun h1 => ?_) (fun _ => ?_)
      · have h1 : (t : Int) < 100 := of_decide_eq_true h1
        refine LoopOK.mk ⟨{ p : K4 × LG × Nat // p.2.2 ≤ 3 * t + p.1.n }, fun p => K4.st (run3 t p.1.2.1 p.1.2.2) p.1.1, fun p => 3 - p.1.1.n, ⟨⟨(.k0, x, k), by show k ≤ 3 * t + 0; omega⟩, ?_⟩, ?_⟩
        · refine wk_of [(5, some 5), (6, some 6), (10, some 10), (11, some 11), (15, some 15), (200, some 200)] rfl ⟨⟨rfl, rfl⟩, ⟨rfl, rfl⟩, ⟨rfl, rfl⟩, rfl, rfl, rfl, rfl, rfl, ⟨rfl, rfl⟩, ⟨rfl, rfl⟩, ⟨rfl, rfl⟩, ⟨rfl, rfl⟩, trivial⟩ ⟨RowLe.fin rfl rfl rfl rfl rfl ?_, RowLe.fin rfl rfl rfl rfl rfl ?_, RowLe.fin rfl rfl rfl rfl rfl ?_, RowLe.fin rfl rfl rfl rfl rfl ?_, RowLe.fin rfl rfl rfl rfl rfl ?_, RowLe.forget rfl rfl rfl rfl rfl, trivial⟩
          all_goals (repeat' first | exact trivial | exact ⟨by kernel_rfl, by kernel_rfl⟩ | exact Or.inr (by kernel_rfl) | (show _ = _; kernel_rfl) | refine ⟨?_, ?_⟩)
        rintro ⟨⟨_ | _ | _ | _, ⟨a, b, c, d, e, f⟩, k⟩, hk⟩
        · have hk : k ≤ 3 * t + 0 := hk
          refine Brn.mk (fun _ => ?_) (fun q => absurd q (by decide +kernel))
          refine Chk.mk i0 (Chk.mk i0 ?_)
          refine Brn.mk (fun q1 => ?_) (fun q1 => ?_)
          · refine Brn.mk (fun q2 => ?_) (fun q2 => ?_)
            · refine Chk.mk ⟨(show (k + 1) * 24 ≤ 140737488355328 by omega), (show k + 1 ≤ 9223372036854775807 by omega)⟩ (Chk.mk (by kernel_rfl) ?_)
              refine Brn.mk (fun _ => ?_) (fun q => absurd q (by decide +kernel))
              refine Brn.mk (fun q3 => ?_) (fun q3 => ?_)
              · refine Brn.mk (fun q => absurd q (by decide +kernel)) (fun _ => ?_)
                refine ⟨⟨(.k1, ⟨0, min (wr (0 + 1)) 4096, c, d, e, f⟩, k + 1), by show k + 1 ≤ 3 * t + 1; omega⟩, (by show 3 - 1 < 3 - 0; decide), ?_⟩
                refine wk_of [(5, some 5), (6, some 6), (10, some 10), (11, some 11), (15, some 15), (200, some 101)] rfl ⟨⟨rfl, rfl⟩, ⟨rfl, rfl⟩, ⟨rfl, rfl⟩, rfl, rfl, rfl, rfl, rfl, ⟨rfl, rfl⟩, ⟨rfl, rfl⟩, ⟨rfl, rfl⟩, ⟨rfl, rfl⟩, trivial⟩ ⟨RowLe.fin rfl rfl rfl rfl rfl ?_, RowLe.fin rfl rfl rfl rfl rfl ?_, RowLe.fin rfl rfl rfl rfl rfl ?_, RowLe.fin rfl rfl rfl rfl rfl ?_, RowLe.fin rfl rfl rfl rfl rfl ?_, RowLe.forget rfl rfl rfl rfl rfl, trivial⟩
                all_goals (repeat' first | exact trivial | exact ⟨by kernel_rfl, by kernel_rfl⟩ | exact Or.inr (by kernel_rfl) | (show _ = _; kernel_rfl) | refine ⟨?_, ?_⟩)
              ·
                refine ⟨⟨(.k1, ⟨0, min (wr (0 + 1)) 4096, c, d, e, f⟩, k + 1), by show k + 1 ≤ 3 * t + 1; omega⟩, (by show 3 - 1 < 3 - 0; decide), ?_⟩
                refine wk_of [(5, some 5), (6, some 6), (10, some 10), (11, some 11), (15, some 15), (200, some 101)] rfl ⟨⟨rfl, rfl⟩, ⟨rfl, rfl⟩, ⟨rfl, rfl⟩, rfl, rfl, rfl, rfl, rfl, ⟨rfl, rfl⟩, ⟨rfl, rfl⟩, ⟨rfl, rfl⟩, ⟨rfl, rfl⟩, trivial⟩ ⟨RowLe.fin rfl rfl rfl rfl rfl ?_, RowLe.fin rfl rfl rfl rfl rfl ?_, RowLe.fin rfl rfl rfl rfl rfl ?_, RowLe.fin rfl rfl rfl rfl rfl ?_, RowLe.fin rfl rfl rfl rfl rfl ?_, RowLe.forget rfl rfl rfl rfl rfl, trivial⟩
                all_goals (repeat' first | exact trivial | exact ⟨by kernel_rfl, by kernel_rfl⟩ | exact Or.inr (by kernel_rfl) | (show _ = _; kernel_rfl) | refine ⟨?_, ?_⟩)
            · refine Brn.mk (fun q => absurd (of_decide_eq_true q) (ndT q1)) (fun _ => ?_)
              refine ⟨⟨(.k1, ⟨a, min (wr (b + 1)) 4096, c, d, e, f⟩, k), by show k ≤ 3 * t + 1; omega⟩, (by show 3 - 1 < 3 - 0; decide), ?_⟩
              refine wk_of [(5, some 5), (6, some 6), (10, some 10), (11, some 11), (15, some 15), (200, some 200)] rfl ⟨⟨rfl, rfl⟩, ⟨rfl, rfl⟩, ⟨rfl, rfl⟩, rfl, rfl, rfl, rfl, rfl, ⟨rfl, rfl⟩, ⟨rfl, rfl⟩, ⟨rfl, rfl⟩, ⟨rfl, rfl⟩, trivial⟩ ⟨RowLe.fin rfl rfl rfl rfl rfl ?_, RowLe.fin rfl rfl rfl rfl rfl ?_, RowLe.fin rfl rfl rfl rfl rfl ?_, RowLe.fin rfl rfl rfl rfl rfl ?_, RowLe.fin rfl rfl rfl rfl rfl ?_, RowLe.forget rfl rfl rfl rfl rfl, trivial⟩
              all_goals (repeat' first | exact trivial | exact ⟨by kernel_rfl, by kernel_rfl⟩ | exact Or.inr (by kernel_rfl) | (show _ = _; kernel_rfl) | refine ⟨?_, ?_⟩)
          · refine Brn.mk (fun _ => ?_) (fun q => absurd (ndF q1) (of_decide_eq_false q))
            refine Brn.mk (fun q3 => ?_) (fun q3 => ?_)
            · refine Brn.mk (fun q4 => ?_) (fun q4 => ?_)
              · refine Chk.mk ⟨(show (k + 1) * 24 ≤ 140737488355328 by omega), (show k + 1 ≤ 9223372036854775807 by omega)⟩ (Chk.mk (by kernel_rfl) ?_)
                refine ⟨⟨(.k1, ⟨(wnt 0 50 t 100), min (wr (b + 1)) 4096, c, d, e, f⟩, k + 1), by show k + 1 ≤ 3 * t + 1; omega⟩, (by show 3 - 1 < 3 - 0; decide), ?_⟩
                refine wk_of [(5, some 5), (6, some 6), (10, some 10), (11, some 11), (15, some 15), (200, some 134)] rfl ⟨⟨rfl, rfl⟩, ⟨rfl, rfl⟩, ⟨rfl, rfl⟩, rfl, rfl, rfl, rfl, rfl, ⟨rfl, rfl⟩, ⟨rfl, rfl⟩, ⟨rfl, rfl⟩, ⟨rfl, rfl⟩, trivial⟩ ⟨RowLe.fin rfl rfl rfl rfl rfl ?_, RowLe.fin rfl rfl rfl rfl rfl ?_, RowLe.fin rfl rfl rfl rfl rfl ?_, RowLe.fin rfl rfl rfl rfl rfl ?_, RowLe.fin rfl rfl rfl rfl rfl ?_, RowLe.forget rfl rfl rfl rfl rfl, trivial⟩
                all_goals (repeat' first | exact trivial | exact ⟨by kernel_rfl, by kernel_rfl⟩ | exact Or.inr (by kernel_rfl) | (show _ = _; kernel_rfl) | refine ⟨?_, ?_⟩)
              ·
                refine ⟨⟨(.k1, ⟨a, min (wr (b + 1)) 4096, c, d, e, f⟩, k), by show k ≤ 3 * t + 1; omega⟩, (by show 3 - 1 < 3 - 0; decide), ?_⟩
                refine wk_of [(5, some 5), (6, some 6), (10, some 10), (11, some 11), (15, some 15), (200, some 200)] rfl ⟨⟨rfl, rfl⟩, ⟨rfl, rfl⟩, ⟨rfl, rfl⟩, rfl, rfl, rfl, rfl, rfl, ⟨rfl, rfl⟩, ⟨rfl, rfl⟩, ⟨rfl, rfl⟩, ⟨rfl, rfl⟩, trivial⟩ ⟨RowLe.fin rfl rfl rfl rfl rfl ?_, RowLe.fin rfl rfl rfl rfl rfl ?_, RowLe.fin rfl rfl rfl rfl rfl ?_, RowLe.fin rfl rfl rfl rfl rfl ?_, RowLe.fin rfl rfl rfl rfl rfl ?_, RowLe.forget rfl rfl rfl rfl rfl, trivial⟩
                all_goals (repeat' first | exact trivial | exact ⟨by kernel_rfl, by kernel_rfl⟩ | exact Or.inr (by kernel_rfl) | (show _ = _; kernel_rfl) | refine ⟨?_, ?_⟩)
            ·
              refine ⟨⟨(.k1, ⟨a, min (wr (b + 1)) 4096, c, d, e, f⟩, k), by show k ≤ 3 * t + 1; omega⟩, (by show 3 - 1 < 3 - 0; decide), ?_⟩
              refine wk_of [(5, some 5), (6, some 6), (10, some 10), (11, some 11), (15, some 15), (200, some 200)] rfl ⟨⟨rfl, rfl⟩, ⟨rfl, rfl⟩, ⟨rfl, rfl⟩, rfl, rfl, rfl, rfl, rfl, ⟨rfl, rfl⟩, ⟨rfl, rfl⟩, ⟨rfl, rfl⟩, ⟨rfl, rfl⟩, trivial⟩ ⟨RowLe.fin rfl rfl rfl rfl rfl ?_, RowLe.fin rfl rfl rfl rfl rfl ?_, RowLe.fin rfl rfl rfl rfl rfl ?_, RowLe.fin rfl rfl rfl rfl rfl ?_, RowLe.fin rfl rfl rfl rfl rfl ?_, RowLe.forget rfl rfl rfl rfl rfl, trivial⟩
              all_goals (repeat' first | exact trivial | exact ⟨by kernel_rfl, by kernel_rfl⟩ | exact Or.inr (by kernel_rfl) | (show _ = _; kernel_rfl) | refine ⟨?_, ?_⟩)
        · have hk : k ≤ 3 * t + 1 := hk
          refine Brn.mk (fun _ => ?_) (fun q => absurd q (by decide +kernel))
          refine Chk.mk i1 (Chk.mk i1 ?_)
          refine Brn.mk (fun q1 => ?_) (fun q1 => ?_)
          · refine Brn.mk (fun q2 => ?_) (fun q2 => ?_)
            · refine Chk.mk ⟨(show (k + 1) * 24 ≤ 140737488355328 by omega), (show k + 1 ≤ 9223372036854775807 by omega)⟩ (Chk.mk (by kernel_rfl) ?_)
              refine Brn.mk (fun _ => ?_) (fun q => absurd q (by decide +kernel))
              refine Brn.mk (fun q3 => ?_) (fun q3 => ?_)
              · refine Brn.mk (fun q => absurd q (by decide +kernel)) (fun _ => ?_)
                refine ⟨⟨(.k2, ⟨a, b, 0, min (wr (0 + 1)) 4096, e, f⟩, k + 1), by show k + 1 ≤ 3 * t + 2; omega⟩, (by show 3 - 2 < 3 - 1; decide), ?_⟩
                refine wk_of [(5, some 5), (6, some 6), (10, some 10), (11, some 11), (15, some 15), (200, some 101)] rfl ⟨⟨rfl, rfl⟩, ⟨rfl, rfl⟩, ⟨rfl, rfl⟩, rfl, rfl, rfl, rfl, rfl, ⟨rfl, rfl⟩, ⟨rfl, rfl⟩, ⟨rfl, rfl⟩, ⟨rfl, rfl⟩, trivial⟩ ⟨RowLe.fin rfl rfl rfl rfl rfl ?_, RowLe.fin rfl rfl rfl rfl rfl ?_, RowLe.fin rfl rfl rfl rfl rfl ?_, RowLe.fin rfl rfl rfl rfl rfl ?_, RowLe.fin rfl rfl rfl rfl rfl ?_, RowLe.forget rfl rfl rfl rfl rfl, trivial⟩
                all_goals (repeat' first | exact trivial | exact ⟨by kernel_rfl, by kernel_rfl⟩ | exact Or.inr (by kernel_rfl) | (show _ = _; kernel_rfl) | refine ⟨?_, ?_⟩)
              ·
                refine ⟨⟨(.k2, ⟨a, b, 0, min (wr (0 + 1)) 4096, e, f⟩, k + 1), by show k + 1 ≤ 3 * t + 2; omega⟩, (by show 3 - 2 < 3 - 1; decide), ?_⟩
                refine wk_of [(5, some 5), (6, some 6), (10, some 10), (11, some 11), (15, some 15), (200, some 101)] rfl ⟨⟨rfl, rfl⟩, ⟨rfl, rfl⟩, ⟨rfl, rfl⟩, rfl, rfl, rfl, rfl, rfl, ⟨rfl, rfl⟩, ⟨rfl, rfl⟩, ⟨rfl, rfl⟩, ⟨rfl, rfl⟩, trivial⟩ ⟨RowLe.fin rfl rfl rfl rfl rfl ?_, RowLe.fin rfl rfl rfl rfl rfl ?_, RowLe.fin rfl rfl rfl rfl rfl ?_, RowLe.fin rfl rfl rfl rfl rfl ?_, RowLe.fin rfl rfl rfl rfl rfl ?_, RowLe.forget rfl rfl rfl rfl rfl, trivial⟩
                all_goals (repeat' first | exact trivial | exact ⟨by kernel_rfl, by kernel_rfl⟩ | exact Or.inr (by kernel_rfl) | (show _ = _; kernel_rfl) | refine ⟨?_, ?_⟩)
            · refine Brn.mk (fun q => absurd (of_decide_eq_true q) (ndT q1)) (fun _ => ?_)
              refine ⟨⟨(.k2, ⟨a, b, c, min (wr (d + 1)) 4096, e, f⟩, k), by show k ≤ 3 * t + 2; omega⟩, (by show 3 - 2 < 3 - 1; decide), ?_⟩
              refine wk_of [(5, some 5), (6, some 6), (10, some 10), (11, some 11), (15, some 15), (200, some 200)] rfl ⟨⟨rfl, rfl⟩, ⟨rfl, rfl⟩, ⟨rfl, rfl⟩, rfl, rfl, rfl, rfl, rfl, ⟨rfl, rfl⟩, ⟨rfl, rfl⟩, ⟨rfl, rfl⟩, ⟨rfl, rfl⟩, trivial⟩ ⟨RowLe.fin rfl rfl rfl rfl rfl ?_, RowLe.fin rfl rfl rfl rfl rfl ?_, RowLe.fin rfl rfl rfl rfl rfl ?_, RowLe.fin rfl rfl rfl rfl rfl ?_, RowLe.fin rfl rfl rfl rfl rfl ?_, RowLe.forget rfl rfl rfl rfl rfl, trivial⟩
              all_goals (repeat' first | exact trivial | exact ⟨by kernel_rfl, by kernel_rfl⟩ | exact Or.inr (by kernel_rfl) | (show _ = _; kernel_rfl) | refine ⟨?_, ?_⟩)
          · refine Brn.mk (fun _ => ?_) (fun q => absurd (ndF q1) (of_decide_eq_false q))
            refine Brn.mk (fun q3 => ?_) (fun q3 => ?_)
            · refine Brn.mk (fun q4 => ?_) (fun q4 => ?_)
              · refine Chk.mk ⟨(show (k + 1) * 24 ≤ 140737488355328 by omega), (show k + 1 ≤ 9223372036854775807 by omega)⟩ (Chk.mk (by kernel_rfl) ?_)
                refine ⟨⟨(.k2, ⟨a, b, (wnt 0 50 t 100), min (wr (d + 1)) 4096, e, f⟩, k + 1), by show k + 1 ≤ 3 * t + 2; omega⟩, (by show 3 - 2 < 3 - 1; decide), ?_⟩
                refine wk_of [(5, some 5), (6, some 6), (10, some 10), (11, some 11), (15, some 15), (200, some 134)] rfl ⟨⟨rfl, rfl⟩, ⟨rfl, rfl⟩, ⟨rfl, rfl⟩, rfl, rfl, rfl, rfl, rfl, ⟨rfl, rfl⟩, ⟨rfl, rfl⟩, ⟨rfl, rfl⟩, ⟨rfl, rfl⟩, trivial⟩ ⟨RowLe.fin rfl rfl rfl rfl rfl ?_, RowLe.fin rfl rfl rfl rfl rfl ?_, RowLe.fin rfl rfl rfl rfl rfl ?_, RowLe.fin rfl rfl rfl rfl rfl ?_, RowLe.fin rfl rfl rfl rfl rfl ?_, RowLe.forget rfl rfl rfl rfl rfl, trivial⟩
                all_goals (repeat' first | exact trivial | exact ⟨by kernel_rfl, by kernel_rfl⟩ | exact Or.inr (by kernel_rfl) | (show _ = _; kernel_rfl) | refine ⟨?_, ?_⟩)
              ·
                refine ⟨⟨(.k2, ⟨a, b, c, min (wr (d + 1)) 4096, e, f⟩, k), by show k ≤ 3 * t + 2; omega⟩, (by show 3 - 2 < 3 - 1; decide), ?_⟩
                refine wk_of [(5, some 5), (6, some 6), (10, some 10), (11, some 11), (15, some 15), (200, some 200)] rfl ⟨⟨rfl, rfl⟩, ⟨rfl, rfl⟩, ⟨rfl, rfl⟩, rfl, rfl, rfl, rfl, rfl, ⟨rfl, rfl⟩, ⟨rfl, rfl⟩, ⟨rfl, rfl⟩, ⟨rfl, rfl⟩, trivial⟩ ⟨RowLe.fin rfl rfl rfl rfl rfl ?_, RowLe.fin rfl rfl rfl rfl rfl ?_, RowLe.fin rfl rfl rfl rfl rfl ?_, RowLe.fin rfl rfl rfl rfl rfl ?_, RowLe.fin rfl rfl rfl rfl rfl ?_, RowLe.forget rfl rfl rfl rfl rfl, trivial⟩
                all_goals (repeat' first | exact trivial | exact ⟨by kernel_rfl, by kernel_rfl⟩ | exact Or.inr (by kernel_rfl) | (show _ = _; kernel_rfl) | refine ⟨?_, ?_⟩)
            ·
              refine ⟨⟨(.k2, ⟨a, b, c, min (wr (d + 1)) 4096, e, f⟩, k), by show k ≤ 3 * t + 2; omega⟩, (by show 3 - 2 < 3 - 1; decide), ?_⟩
              refine wk_of [(5, some 5), (6, some 6), (10, some 10), (11, some 11), (15, some 15), (200, some 200)] rfl ⟨⟨rfl, rfl⟩, ⟨rfl, rfl⟩, ⟨rfl, rfl⟩, rfl, rfl, rfl, rfl, rfl, ⟨rfl, rfl⟩, ⟨rfl, rfl⟩, ⟨rfl, rfl⟩, ⟨rfl, rfl⟩, trivial⟩ ⟨RowLe.fin rfl rfl rfl rfl rfl ?_, RowLe.fin rfl rfl rfl rfl rfl ?_, RowLe.fin rfl rfl rfl rfl rfl ?_, RowLe.fin rfl rfl rfl rfl rfl ?_, RowLe.fin rfl rfl rfl rfl rfl ?_, RowLe.forget rfl rfl rfl rfl rfl, trivial⟩
              all_goals (repeat' first | exact trivial | exact ⟨by kernel_rfl, by kernel_rfl⟩ | exact Or.inr (by kernel_rfl) | (show _ = _; kernel_rfl) | refine ⟨?_, ?_⟩)
        · have hk : k ≤ 3 * t + 2 := hk
          refine Brn.mk (fun _ => ?_) (fun q => absurd q (by decide +kernel))
          refine Chk.mk i2 (Chk.mk i2 ?_)
          refine Brn.mk (fun q1 => ?_) (fun q1 => ?_)
          · refine Brn.mk (fun q2 => ?_) (fun q2 => ?_)
            · refine Chk.mk ⟨(show (k + 1) * 24 ≤ 140737488355328 by omega), (show k + 1 ≤ 9223372036854775807 by omega)⟩ (Chk.mk (by kernel_rfl) ?_)
              refine Brn.mk (fun _ => ?_) (fun q => absurd q (by decide +kernel))
              refine Brn.mk (fun q3 => ?_) (fun q3 => ?_)
              · refine Brn.mk (fun q => absurd q (by decide +kernel)) (fun _ => ?_)
                refine ⟨⟨(.k3, ⟨a, b, c, d, 0, min (wr (0 + 1)) 4096⟩, k + 1), by show k + 1 ≤ 3 * t + 3; omega⟩, (by show 3 - 3 < 3 - 2; decide), ?_⟩
                refine wk_of [(5, some 5), (6, some 6), (10, some 10), (11, some 11), (15, some 15), (200, some 101)] rfl ⟨⟨rfl, rfl⟩, ⟨rfl, rfl⟩, ⟨rfl, rfl⟩, rfl, rfl, rfl, rfl, rfl, ⟨rfl, rfl⟩, ⟨rfl, rfl⟩, ⟨rfl, rfl⟩, ⟨rfl, rfl⟩, trivial⟩ ⟨RowLe.fin rfl rfl rfl rfl rfl ?_, RowLe.fin rfl rfl rfl rfl rfl ?_, RowLe.fin rfl rfl rfl rfl rfl ?_, RowLe.fin rfl rfl rfl rfl rfl ?_, RowLe.fin rfl rfl rfl rfl rfl ?_, RowLe.forget rfl rfl rfl rfl rfl, trivial⟩
                all_goals (repeat' first | exact trivial | exact ⟨by kernel_rfl, by kernel_rfl⟩ | exact Or.inr (by kernel_rfl) | (show _ = _; kernel_rfl) | refine ⟨?_, ?_⟩)
              ·
                refine ⟨⟨(.k3, ⟨a, b, c, d, 0, min (wr (0 + 1)) 4096⟩, k + 1), by show k + 1 ≤ 3 * t + 3; omega⟩, (by show 3 - 3 < 3 - 2; decide), ?_⟩
                refine wk_of [(5, some 5), (6, some 6), (10, some 10), (11, some 11), (15, some 15), (200, some 101)] rfl ⟨⟨rfl, rfl⟩, ⟨rfl, rfl⟩, ⟨rfl, rfl⟩, rfl, rfl, rfl, rfl, rfl, ⟨rfl, rfl⟩, ⟨rfl, rfl⟩, ⟨rfl, rfl⟩, ⟨rfl, rfl⟩, trivial⟩ ⟨RowLe.fin rfl rfl rfl rfl rfl ?_, RowLe.fin rfl rfl rfl rfl rfl ?_, RowLe.fin rfl rfl rfl rfl rfl ?_, RowLe.fin rfl rfl rfl rfl rfl ?_, RowLe.fin rfl rfl rfl rfl rfl ?_, RowLe.forget rfl rfl rfl rfl rfl, trivial⟩
                all_goals (repeat' first | exact trivial | exact ⟨by kernel_rfl, by kernel_rfl⟩ | exact Or.inr (by kernel_rfl) | (show _ = _; kernel_rfl) | refine ⟨?_, ?_⟩)
            · refine Brn.mk (fun q => absurd (of_decide_eq_true q) (ndT q1)) (fun _ => ?_)
              refine ⟨⟨(.k3, ⟨a, b, c, d, e, min (wr (f + 1)) 4096⟩, k), by show k ≤ 3 * t + 3; omega⟩, (by show 3 - 3 < 3 - 2; decide), ?_⟩
              refine wk_of [(5, some 5), (6, some 6), (10, some 10), (11, some 11), (15, some 15), (200, some 200)] rfl ⟨⟨rfl, rfl⟩, ⟨rfl, rfl⟩, ⟨rfl, rfl⟩, rfl, rfl, rfl, rfl, rfl, ⟨rfl, rfl⟩, ⟨rfl, rfl⟩, ⟨rfl, rfl⟩, ⟨rfl, rfl⟩, trivial⟩ ⟨RowLe.fin rfl rfl rfl rfl rfl ?_, RowLe.fin rfl rfl rfl rfl rfl ?_, RowLe.fin rfl rfl rfl rfl rfl ?_, RowLe.fin rfl rfl rfl rfl rfl ?_, RowLe.fin rfl rfl rfl rfl rfl ?_, RowLe.forget rfl rfl rfl rfl rfl, trivial⟩
              all_goals (repeat' first | exact trivial | exact ⟨by kernel_rfl, by kernel_rfl⟩ | exact Or.inr (by kernel_rfl) | (show _ = _; kernel_rfl) | refine ⟨?_, ?_⟩)
          · refine Brn.mk (fun _ => ?_) (fun q => absurd (ndF q1) (of_decide_eq_false q))
            refine Brn.mk (fun q3 => ?_) (fun q3 => ?_)
            · refine Brn.mk (fun q4 => ?_) (fun q4 => ?_)
              · refine Chk.mk ⟨(show (k + 1) * 24 ≤ 140737488355328 by omega), (show k + 1 ≤ 9223372036854775807 by omega)⟩ (Chk.mk (by kernel_rfl) ?_)
                refine ⟨⟨(.k3, ⟨a, b, c, d, (wnt 0 50 t 100), min (wr (f + 1)) 4096⟩, k + 1), by show k + 1 ≤ 3 * t + 3; omega⟩, (by show 3 - 3 < 3 - 2; decide), ?_⟩
                refine wk_of [(5, some 5), (6, some 6), (10, some 10), (11, some 11), (15, some 15), (200, some 134)] rfl ⟨⟨rfl, rfl⟩, ⟨rfl, rfl⟩, ⟨rfl, rfl⟩, rfl, rfl, rfl, rfl, rfl, ⟨rfl, rfl⟩, ⟨rfl, rfl⟩, ⟨rfl, rfl⟩, ⟨rfl, rfl⟩, trivial⟩ ⟨RowLe.fin rfl rfl rfl rfl rfl ?_, RowLe.fin rfl rfl rfl rfl rfl ?_, RowLe.fin rfl rfl rfl rfl rfl ?_, RowLe.fin rfl rfl rfl rfl rfl ?_, RowLe.fin rfl rfl rfl rfl rfl ?_, RowLe.forget rfl rfl rfl rfl rfl, trivial⟩
                all_goals (repeat' first | exact trivial | exact ⟨by kernel_rfl, by kernel_rfl⟩ | exact Or.inr (by kernel_rfl) | (show _ = _; kernel_rfl) | refine ⟨?_, ?_⟩)
              ·
                refine ⟨⟨(.k3, ⟨a, b, c, d, e, min (wr (f + 1)) 4096⟩, k), by show k ≤ 3 * t + 3; omega⟩, (by show 3 - 3 < 3 - 2; decide), ?_⟩
                refine wk_of [(5, some 5), (6, some 6), (10, some 10), (11, some 11), (15, some 15), (200, some 200)] rfl ⟨⟨rfl, rfl⟩, ⟨rfl, rfl⟩, ⟨rfl, rfl⟩, rfl, rfl, rfl, rfl, rfl, ⟨rfl, rfl⟩, ⟨rfl, rfl⟩, ⟨rfl, rfl⟩, ⟨rfl, rfl⟩, trivial⟩ ⟨RowLe.fin rfl rfl rfl rfl rfl ?_, RowLe.fin rfl rfl rfl rfl rfl ?_, RowLe.fin rfl rfl rfl rfl rfl ?_, RowLe.fin rfl rfl rfl rfl rfl ?_, RowLe.fin rfl rfl rfl rfl rfl ?_, RowLe.forget rfl rfl rfl rfl rfl, trivial⟩
                all_goals (repeat' first | exact trivial | exact ⟨by kernel_rfl, by kernel_rfl⟩ | exact Or.inr (by kernel_rfl) | (show _ = _; kernel_rfl) | refine ⟨?_, ?_⟩)
            ·
              refine ⟨⟨(.k3, ⟨a, b, c, d, e, min (wr (f + 1)) 4096⟩, k), by show k ≤ 3 * t + 3; omega⟩, (by show 3 - 3 < 3 - 2; decide), ?_⟩
              refine wk_of [(5, some 5), (6, some 6), (10, some 10), (11, some 11), (15, some 15), (200, some 200)] rfl ⟨⟨rfl, rfl⟩, ⟨rfl, rfl⟩, ⟨rfl, rfl⟩, rfl, rfl, rfl, rfl, rfl, ⟨rfl, rfl⟩, ⟨rfl, rfl⟩, ⟨rfl, rfl⟩, ⟨rfl, rfl⟩, trivial⟩ ⟨RowLe.fin rfl rfl rfl rfl rfl ?_, RowLe.fin rfl rfl rfl rfl rfl ?_, RowLe.fin rfl rfl rfl rfl rfl ?_, RowLe.fin rfl rfl rfl rfl rfl ?_, RowLe.fin rfl rfl rfl rfl rfl ?_, RowLe.forget rfl rfl rfl rfl rfl, trivial⟩
              all_goals (repeat' first | exact trivial | exact ⟨by kernel_rfl, by kernel_rfl⟩ | exact Or.inr (by kernel_rfl) | (show _ = _; kernel_rfl) | refine ⟨?_, ?_⟩)
        · have hk : k ≤ 3 * t + 3 := hk
          refine Brn.mk (fun q => absurd q (by decide +kernel)) (fun _ => ?_)
          refine ⟨⟨(t + 1, ⟨a, b, c, d, e, f⟩, k), by show t + 1 ≤ 100; omega, by show k ≤ 3 * (t + 1); omega⟩, by show 100 - (t + 1) < 100 - t; omega, ?_⟩
          refine wk_of [(5, some 5), (6, some 6), (10, some 10), (11, some 11), (15, some 15), (200, some 200)] rfl ⟨⟨rfl, rfl⟩, ⟨rfl, rfl⟩, ⟨rfl, rfl⟩, rfl, rfl, rfl, rfl, rfl, ⟨rfl, rfl⟩, ⟨wrS (i := t) (by omega), rfl⟩, trivial⟩ ⟨RowLe.fin rfl rfl rfl rfl rfl ?_, RowLe.fin rfl rfl rfl rfl rfl ?_, RowLe.fin rfl rfl rfl rfl rfl ?_, RowLe.fin rfl rfl rfl rfl rfl ?_, RowLe.fin rfl rfl rfl rfl rfl ?_, RowLe.forget rfl rfl rfl rfl rfl, trivial⟩
          all_goals (repeat' first | exact trivial | exact ⟨by kernel_rfl, by kernel_rfl⟩ | exact Or.inr (by kernel_rfl) | (show _ = _; kernel_rfl) | refine ⟨?_, ?_⟩)
      · refine Chk.mk (by kernel_rfl) ?_
        exact AVle.tup3 (.aggL ⟨.bad, .bad, .bad, .bad, .bad, .bad, .bad, .bad, trivial⟩) (.aggL ⟨.bad, .bad, .bad, .bad, .bad, .bad, trivial⟩) (.nilErr rfl)
  · trivial
end
end Go.Proofs.Ytbhbjmneglkgnaa.Img
