/- Chapter 47: a tick. Conditions: none. -/
import Derived.Test.YtbhbjmneglkgnaaTop3
namespace Go.Proofs.Ytbhbjmneglkgnaa.Img
open Go Go.Proofs.Ytbhbjmneglkgnaa.AI Go.Proofs
noncomputable section
set_option maxRecDepth 100000
/-- What a tick takes. -/
structure OI where
  e : Int
  l : Int
  a : Int
  t : Int
  p : Int
  f0 : Int
  f1 : Int
  h : Bool
  r0 : Bool
  r1 : Bool
  b0 : Bool
  b1 : Bool
def OI.l1 (x : OI) : Bool := x.h || (decide (x.l ≤ x.f0) && x.b0)
def OI.l2 (x : OI) : Bool := x.l1 || (decide (x.l ≤ x.f1) && x.b1)
def OI.ap (x : OI) : Int := tcnt x.p (!(x.r0 == x.r1)) (wr (x.a + 1))
def OI.l3 (x : OI) : Bool := x.l2 || decide (x.a < x.ap)
def OI.off (x : OI) : Bool := x.l3 || (x.r0 || x.r1)
def OI.tm (x : OI) : Int := (wr ((wr (x.t.tmod x.e + x.e)).tmod x.e + 1)).tmod x.e
def OI.t2 (x : OI) : Int := if x.off = true then 0 else x.tm
def OI.d (x : OI) (i : Int) : Bool := !x.off && !tst x.e x.l i x.t2
def OI.g (x : OI) (i f : Int) : Int := tcnt f (!x.d i) (wr (x.l + 1))
def OI.res (x : OI) : List AV := [.int .i64 x.t2, .int .i64 x.ap, .int .i64 (x.g 0 x.f0), .int .i64 (x.g 1 x.f1), .bit (x.d 0), .bit (x.d 1), .bit x.l3]
def sOStep : Sp
  | [.agg [.int .i64 e, .int .i64 l, .int .i64 a], .agg [.int .i64 t, .int .i64 p, .int .i64 f0, .int .i64 f1, .bit _, .bit _, .bit h], .agg [.bit r0, .bit r1, .bit b0, .bit b1]] =>
    .pre (ochk e l a = 0) (.tup [.agg (OI.mk e l a t p f0 f1 h r0 r1 b0 b1).res, .err 0])
  | _ => .no
def OI.row3 (x : OI) : Nat × Row := (3, ⟨41, 3, 1, fun _ j => nth [.int .i64 x.e, .int .i64 x.l, .int .i64 x.a] j, 0, true⟩)
def OI.row6 : Nat × Row := (6, ⟨46, 7, 1, fun _ j => nth [.int .i64 0, .int .i64 0, .int .i64 0, .int .i64 0, .bit false, .bit false, .bit false] j, 0, true⟩)
def OI.row4 (t p f0 f1 : Int) (d0 d1 h : Bool) : Nat × Row := (4, ⟨46, 7, 1, fun _ j => nth [.int .i64 t, .int .i64 p, .int .i64 f0, .int .i64 f1, .bit d0, .bit d1, .bit h] j, 0, true⟩)
def OI.st1 (x : OI) (d0 d1 : Bool) : K3 → St
  | .k0 => mkSt [(3, .loc 3 0), (4, .loc 4 0), (5, .loc 5 0), (6, .loc 6 0), (20, .agg [.int .i64 x.f0, .int .i64 x.f1]), (21, .int .i64 0)]
      [x.row3, OI.row4 x.t x.p x.f0 x.f1 d0 d1 x.h, (5, ⟨53, 4, 1, fun _ j => nth [.bit x.r0, .bit x.r1, .bit x.b0, .bit x.b1] j, 0, true⟩), OI.row6]
  | .k1 => mkSt [(3, .loc 3 0), (4, .loc 4 0), (5, .loc 5 0), (6, .loc 6 0), (20, .agg [.int .i64 x.f0, .int .i64 x.f1]), (21, .int .i64 1)]
      [x.row3, OI.row4 x.t x.p x.f0 x.f1 d0 d1 x.l1, (5, ⟨53, 4, 1, fun _ j => nth [.bit x.r0, .bit x.r1, .bit x.b0, .bit x.b1] j, 0, true⟩), OI.row6]
  | .k2 => mkSt [(3, .loc 3 0), (4, .loc 4 0), (5, .loc 5 0), (6, .loc 6 0), (20, .agg [.int .i64 x.f0, .int .i64 x.f1]), (21, .int .i64 2)]
      [x.row3, OI.row4 x.t x.p x.f0 x.f1 d0 d1 x.l2, (5, ⟨53, 4, 1, fun _ j => nth [.bit x.r0, .bit x.r1, .bit x.b0, .bit x.b1] j, 0, true⟩), OI.row6]
def OI.st2 (x : OI) (d0 d1 : Bool) : K3 → St
  | .k0 => mkSt [(3, .loc 3 0), (4, .loc 4 0), (6, .loc 6 0), (11, .bit x.off), (95, .int .i64 0)] [x.row3, OI.row4 x.t2 x.ap x.f0 x.f1 d0 d1 x.l3, OI.row6]
  | .k1 => mkSt [(3, .loc 3 0), (4, .loc 4 0), (6, .loc 6 0), (11, .bit x.off), (95, .int .i64 1)] [x.row3, OI.row4 x.t2 x.ap (x.g 0 x.f0) x.f1 (x.d 0) d1 x.l3, OI.row6]
  | .k2 => mkSt [(3, .loc 3 0), (4, .loc 4 0), (6, .loc 6 0), (11, .bit x.off), (95, .int .i64 2)] [x.row3, OI.row4 x.t2 x.ap (x.g 0 x.f0) (x.g 1 x.f1) (x.d 0) (x.d 1) x.l3, OI.row6]
theorem renB {x y : Bool} (h : x = y) : AV.bit x = .bit y ∧ idFree (.bit y) = true := ⟨by rw [h], rfl⟩
set_option maxHeartbeats 8000000 in
theorem ok13 : EntOK Try.prog TE 13 sOStep := by
  refine ⟨callable_of Try.func13 (by kernel_rfl), fun args => ?_⟩
  unfold sOStep
  split
  · rename_i e l a t p f0 f1 d0 d1 h r0 r1 b0 b1
    intro hc
    refine fn_ofF tabsOK (specOK_cons ok11 (specOK_cons ok27 (specOK_cons ok28 specOK_nil))) mixed Try.func13 (by kernel_rfl) ?_
    refine Brn.mk (fun q => absurd hc (ndT q)) (fun _ => ?_)
    have i1 : (0 : Int) ≤ 1 ∧ (1 : Int) < 2 := by decide
    have i0 : (0 : Int) ≤ 0 ∧ (0 : Int) < 2 := by decide
    obtain ⟨x, hx⟩ : ∃ x, x = OI.mk e l a t p f0 f1 h r0 r1 b0 b1 := ⟨_, rfl⟩
    have he : ¬ e = 0 := by have := ochk_zero hc; omega
    refine LoopOK.mk ⟨K3, OI.st1 (OI.mk e l a t p f0 f1 h r0 r1 b0 b1) d0 d1, fun k => 2 - k.n, ⟨.k0, ?_⟩, ?_⟩
    · refine wk_of [(3, some 3), (4, some 4), (5, some 5), (6, some 6)] rfl ⟨rfl, rfl, rfl, rfl, ⟨rfl, rfl⟩, ⟨rfl, rfl⟩, trivial⟩ ⟨RowLe.fin rfl rfl rfl rfl rfl ?_, RowLe.fin rfl rfl rfl rfl rfl ?_, RowLe.fin rfl rfl rfl rfl rfl ?_, RowLe.fin rfl rfl rfl rfl rfl ?_, trivial⟩
      all_goals (repeat' first | exact trivial | exact ⟨by kernel_rfl, by kernel_rfl⟩ | exact Or.inr (by kernel_rfl) | (show _ = _; kernel_rfl) | refine ⟨?_, ?_⟩)
    rintro (_ | _ | _)
    · refine Brn.mk (fun _ => ?_) (fun q => absurd q (by decide +kernel))
      refine Chk.mk i0 ?_
      refine Brn.mk (fun q => ?_) (fun q => ?_)
      · have q : h = true := q
        refine ⟨.k1, by decide, ?_⟩
        refine wk_of [(3, some 3), (4, some 4), (5, some 5), (6, some 6)] rfl ⟨rfl, rfl, rfl, rfl, ⟨rfl, rfl⟩, ⟨rfl, rfl⟩, trivial⟩ ⟨RowLe.fin rfl rfl rfl rfl rfl ?_, RowLe.fin rfl rfl rfl rfl rfl ⟨trivial, ⟨⟨⟨⟨⟨⟨⟨trivial, ⟨by kernel_rfl, by kernel_rfl⟩⟩, ⟨by kernel_rfl, by kernel_rfl⟩⟩, ⟨by kernel_rfl, by kernel_rfl⟩⟩, ⟨by kernel_rfl, by kernel_rfl⟩⟩, ⟨by kernel_rfl, by kernel_rfl⟩⟩, ⟨by kernel_rfl, by kernel_rfl⟩⟩, renB (show true = (OI.mk e l a t p f0 f1 h r0 r1 b0 b1).l1 by show true = (h || (decide (l ≤ f0) && b0)); rw [q]; rfl)⟩⟩, RowLe.fin rfl rfl rfl rfl rfl ?_, RowLe.fin rfl rfl rfl rfl rfl ?_, trivial⟩
        all_goals (repeat' first | exact trivial | exact ⟨by kernel_rfl, by kernel_rfl⟩ | exact Or.inr (by kernel_rfl) | (show _ = _; kernel_rfl) | refine ⟨?_, ?_⟩)
      · have q : h = false := q
        refine Brn.mk (fun q2 => ?_) (fun q2 => ?_)
        · have q2 : decide (l ≤ f0) = true := q2
          refine Chk.mk i0 ?_
          refine ⟨.k1, by decide, ?_⟩
          refine wk_of [(3, some 3), (4, some 4), (5, some 5), (6, some 6)] rfl ⟨rfl, rfl, rfl, rfl, ⟨rfl, rfl⟩, ⟨rfl, rfl⟩, trivial⟩ ⟨RowLe.fin rfl rfl rfl rfl rfl ?_, RowLe.fin rfl rfl rfl rfl rfl ⟨trivial, ⟨⟨⟨⟨⟨⟨⟨trivial, ⟨by kernel_rfl, by kernel_rfl⟩⟩, ⟨by kernel_rfl, by kernel_rfl⟩⟩, ⟨by kernel_rfl, by kernel_rfl⟩⟩, ⟨by kernel_rfl, by kernel_rfl⟩⟩, ⟨by kernel_rfl, by kernel_rfl⟩⟩, ⟨by kernel_rfl, by kernel_rfl⟩⟩, renB (show b0 = (OI.mk e l a t p f0 f1 h r0 r1 b0 b1).l1 by show b0 = (h || (decide (l ≤ f0) && b0)); rw [q, q2]; rfl)⟩⟩, RowLe.fin rfl rfl rfl rfl rfl ?_, RowLe.fin rfl rfl rfl rfl rfl ?_, trivial⟩
          all_goals (repeat' first | exact trivial | exact ⟨by kernel_rfl, by kernel_rfl⟩ | exact Or.inr (by kernel_rfl) | (show _ = _; kernel_rfl) | refine ⟨?_, ?_⟩)
        · have q2 : decide (l ≤ f0) = false := q2
          refine ⟨.k1, by decide, ?_⟩
          refine wk_of [(3, some 3), (4, some 4), (5, some 5), (6, some 6)] rfl ⟨rfl, rfl, rfl, rfl, ⟨rfl, rfl⟩, ⟨rfl, rfl⟩, trivial⟩ ⟨RowLe.fin rfl rfl rfl rfl rfl ?_, RowLe.fin rfl rfl rfl rfl rfl ⟨trivial, ⟨⟨⟨⟨⟨⟨⟨trivial, ⟨by kernel_rfl, by kernel_rfl⟩⟩, ⟨by kernel_rfl, by kernel_rfl⟩⟩, ⟨by kernel_rfl, by kernel_rfl⟩⟩, ⟨by kernel_rfl, by kernel_rfl⟩⟩, ⟨by kernel_rfl, by kernel_rfl⟩⟩, ⟨by kernel_rfl, by kernel_rfl⟩⟩, renB (show false = (OI.mk e l a t p f0 f1 h r0 r1 b0 b1).l1 by show false = (h || (decide (l ≤ f0) && b0)); rw [q, q2]; rfl)⟩⟩, RowLe.fin rfl rfl rfl rfl rfl ?_, RowLe.fin rfl rfl rfl rfl rfl ?_, trivial⟩
          all_goals (repeat' first | exact trivial | exact ⟨by kernel_rfl, by kernel_rfl⟩ | exact Or.inr (by kernel_rfl) | (show _ = _; kernel_rfl) | refine ⟨?_, ?_⟩)
    · refine Brn.mk (fun _ => ?_) (fun q => absurd q (by decide +kernel))
      refine Chk.mk i1 ?_
      refine Brn.mk (fun q => ?_) (fun q => ?_)
      · have q : (OI.mk e l a t p f0 f1 h r0 r1 b0 b1).l1 = true := q
        refine ⟨.k2, by decide, ?_⟩
        refine wk_of [(3, some 3), (4, some 4), (5, some 5), (6, some 6)] rfl ⟨rfl, rfl, rfl, rfl, ⟨rfl, rfl⟩, ⟨rfl, rfl⟩, trivial⟩ ⟨RowLe.fin rfl rfl rfl rfl rfl ?_, RowLe.fin rfl rfl rfl rfl rfl ⟨trivial, ⟨⟨⟨⟨⟨⟨⟨trivial, ⟨by kernel_rfl, by kernel_rfl⟩⟩, ⟨by kernel_rfl, by kernel_rfl⟩⟩, ⟨by kernel_rfl, by kernel_rfl⟩⟩, ⟨by kernel_rfl, by kernel_rfl⟩⟩, ⟨by kernel_rfl, by kernel_rfl⟩⟩, ⟨by kernel_rfl, by kernel_rfl⟩⟩, renB (show true = (OI.mk e l a t p f0 f1 h r0 r1 b0 b1).l2 by show true = ((OI.mk e l a t p f0 f1 h r0 r1 b0 b1).l1 || (decide (l ≤ f1) && b1)); rw [q]; rfl)⟩⟩, RowLe.fin rfl rfl rfl rfl rfl ?_, RowLe.fin rfl rfl rfl rfl rfl ?_, trivial⟩
        all_goals (repeat' first | exact trivial | exact ⟨by kernel_rfl, by kernel_rfl⟩ | exact Or.inr (by kernel_rfl) | (show _ = _; kernel_rfl) | refine ⟨?_, ?_⟩)
      · have q : (OI.mk e l a t p f0 f1 h r0 r1 b0 b1).l1 = false := q
        refine Brn.mk (fun q2 => ?_) (fun q2 => ?_)
        · have q2 : decide (l ≤ f1) = true := q2
          refine Chk.mk i1 ?_
          refine ⟨.k2, by decide, ?_⟩
          refine wk_of [(3, some 3), (4, some 4), (5, some 5), (6, some 6)] rfl ⟨rfl, rfl, rfl, rfl, ⟨rfl, rfl⟩, ⟨rfl, rfl⟩, trivial⟩ ⟨RowLe.fin rfl rfl rfl rfl rfl ?_, RowLe.fin rfl rfl rfl rfl rfl ⟨trivial, ⟨⟨⟨⟨⟨⟨⟨trivial, ⟨by kernel_rfl, by kernel_rfl⟩⟩, ⟨by kernel_rfl, by kernel_rfl⟩⟩, ⟨by kernel_rfl, by kernel_rfl⟩⟩, ⟨by kernel_rfl, by kernel_rfl⟩⟩, ⟨by kernel_rfl, by kernel_rfl⟩⟩, ⟨by kernel_rfl, by kernel_rfl⟩⟩, renB (show b1 = (OI.mk e l a t p f0 f1 h r0 r1 b0 b1).l2 by show b1 = ((OI.mk e l a t p f0 f1 h r0 r1 b0 b1).l1 || (decide (l ≤ f1) && b1)); rw [q, q2]; rfl)⟩⟩, RowLe.fin rfl rfl rfl rfl rfl ?_, RowLe.fin rfl rfl rfl rfl rfl ?_, trivial⟩
          all_goals (repeat' first | exact trivial | exact ⟨by kernel_rfl, by kernel_rfl⟩ | exact Or.inr (by kernel_rfl) | (show _ = _; kernel_rfl) | refine ⟨?_, ?_⟩)
        · have q2 : decide (l ≤ f1) = false := q2
          refine ⟨.k2, by decide, ?_⟩
          refine wk_of [(3, some 3), (4, some 4), (5, some 5), (6, some 6)] rfl ⟨rfl, rfl, rfl, rfl, ⟨rfl, rfl⟩, ⟨rfl, rfl⟩, trivial⟩ ⟨RowLe.fin rfl rfl rfl rfl rfl ?_, RowLe.fin rfl rfl rfl rfl rfl ⟨trivial, ⟨⟨⟨⟨⟨⟨⟨trivial, ⟨by kernel_rfl, by kernel_rfl⟩⟩, ⟨by kernel_rfl, by kernel_rfl⟩⟩, ⟨by kernel_rfl, by kernel_rfl⟩⟩, ⟨by kernel_rfl, by kernel_rfl⟩⟩, ⟨by kernel_rfl, by kernel_rfl⟩⟩, ⟨by kernel_rfl, by kernel_rfl⟩⟩, renB (show false = (OI.mk e l a t p f0 f1 h r0 r1 b0 b1).l2 by show false = ((OI.mk e l a t p f0 f1 h r0 r1 b0 b1).l1 || (decide (l ≤ f1) && b1)); rw [q, q2]; rfl)⟩⟩, RowLe.fin rfl rfl rfl rfl rfl ?_, RowLe.fin rfl rfl rfl rfl rfl ?_, trivial⟩
          all_goals (repeat' first | exact trivial | exact ⟨by kernel_rfl, by kernel_rfl⟩ | exact Or.inr (by kernel_rfl) | (show _ = _; kernel_rfl) | refine ⟨?_, ?_⟩)
    · refine Brn.mk (fun q => absurd q (by decide +kernel)) (fun _ => ?_)
      refine Chk.mk rfl (Chk.mk rfl ?_)
      refine Brn.mk (fun q => ?_) (fun q => ?_)
      · have q : (OI.mk e l a t p f0 f1 h r0 r1 b0 b1).l2 = true := q
        have el : true = (OI.mk e l a t p f0 f1 h r0 r1 b0 b1).l3 := by show true = ((OI.mk e l a t p f0 f1 h r0 r1 b0 b1).l2 || decide (a < (OI.mk e l a t p f0 f1 h r0 r1 b0 b1).ap)); rw [q]; rfl
        have eo : true = (OI.mk e l a t p f0 f1 h r0 r1 b0 b1).off := by show true = ((OI.mk e l a t p f0 f1 h r0 r1 b0 b1).l3 || (r0 || r1)); rw [← el]; rfl
        have et : 0 = (OI.mk e l a t p f0 f1 h r0 r1 b0 b1).t2 := by rw [OI.t2, ← eo]; rfl
        (repeat first | refine Chk.mk rfl ?_ | refine Chk.mk he ?_ | refine Chk.mk (by kernel_rfl) ?_ | refine Brn.mk (fun _ => ?_) (fun h => absurd (show true = false from h) (by decide)))
        refine LoopOK.mk ⟨K3, OI.st2 (OI.mk e l a t p f0 f1 h r0 r1 b0 b1) d0 d1, fun k => 2 - k.n, ⟨.k0, ?_⟩, ?_⟩
        · refine wk_of [(3, some 3), (4, some 4), (6, some 6)] rfl ⟨rfl, rfl, rfl, renB eo, ⟨rfl, rfl⟩, trivial⟩ ⟨RowLe.fin rfl rfl rfl rfl rfl ?_, RowLe.fin rfl rfl rfl rfl rfl ⟨trivial, ⟨⟨⟨⟨⟨⟨⟨trivial, renI et⟩, ⟨by kernel_rfl, by kernel_rfl⟩⟩, ⟨by kernel_rfl, by kernel_rfl⟩⟩, ⟨by kernel_rfl, by kernel_rfl⟩⟩, ⟨by kernel_rfl, by kernel_rfl⟩⟩, ⟨by kernel_rfl, by kernel_rfl⟩⟩, renB el⟩⟩, RowLe.fin rfl rfl rfl rfl rfl ?_, trivial⟩
          all_goals (repeat' first | exact trivial | exact ⟨by kernel_rfl, by kernel_rfl⟩ | exact Or.inr (by kernel_rfl) | (show _ = _; kernel_rfl) | refine ⟨?_, ?_⟩)
        rintro (_ | _ | _)
        · refine Brn.mk (fun _ => ?_) (fun q => absurd q (by decide +kernel))
          refine Brn.mk (fun q => ?_) (fun q => ?_)
          · have q : (OI.mk e l a t p f0 f1 h r0 r1 b0 b1).off = false := by cases hq : (OI.mk e l a t p f0 f1 h r0 r1 b0 b1).off with | false => rfl | true => exact absurd (show (!(OI.mk e l a t p f0 f1 h r0 r1 b0 b1).off) = true from q) (by rw [hq]; decide)
            have eD : (!tst e l 0 (OI.mk e l a t p f0 f1 h r0 r1 b0 b1).t2) = (OI.mk e l a t p f0 f1 h r0 r1 b0 b1).d 0 := by show _ = (!(OI.mk e l a t p f0 f1 h r0 r1 b0 b1).off && !tst e l 0 (OI.mk e l a t p f0 f1 h r0 r1 b0 b1).t2); rw [q]; rfl
            refine Chk.mk i0 (Chk.mk i0 (Chk.mk i0 (Chk.mk i0 (Chk.mk (by kernel_rfl) ?_))))
            refine ⟨.k1, by decide, ?_⟩
            refine wk_of [(3, some 3), (4, some 4), (6, some 6)] rfl ⟨rfl, rfl, rfl, ⟨rfl, rfl⟩, ⟨rfl, rfl⟩, trivial⟩ ⟨RowLe.fin rfl rfl rfl rfl rfl ?_, RowLe.fin rfl rfl rfl rfl rfl ⟨trivial, ⟨⟨⟨⟨⟨⟨⟨trivial, ⟨by kernel_rfl, by kernel_rfl⟩⟩, ⟨by kernel_rfl, by kernel_rfl⟩⟩, renI (congrArg (fun b => tcnt f0 (!b) (wr (l + 1))) eD)⟩, ⟨by kernel_rfl, by kernel_rfl⟩⟩, renB eD⟩, ⟨by kernel_rfl, by kernel_rfl⟩⟩, ⟨by kernel_rfl, by kernel_rfl⟩⟩⟩, RowLe.fin rfl rfl rfl rfl rfl ?_, trivial⟩
            all_goals (repeat' first | exact trivial | exact ⟨by kernel_rfl, by kernel_rfl⟩ | exact Or.inr (by kernel_rfl) | (show _ = _; kernel_rfl) | refine ⟨?_, ?_⟩)
          · have q : (OI.mk e l a t p f0 f1 h r0 r1 b0 b1).off = true := by cases hq : (OI.mk e l a t p f0 f1 h r0 r1 b0 b1).off with | true => rfl | false => exact absurd (show (!(OI.mk e l a t p f0 f1 h r0 r1 b0 b1).off) = false from q) (by rw [hq]; decide)
            have eD : false = (OI.mk e l a t p f0 f1 h r0 r1 b0 b1).d 0 := by show _ = (!(OI.mk e l a t p f0 f1 h r0 r1 b0 b1).off && !tst e l 0 (OI.mk e l a t p f0 f1 h r0 r1 b0 b1).t2); rw [q]; rfl
            refine Chk.mk i0 (Chk.mk i0 (Chk.mk i0 (Chk.mk i0 (Chk.mk (by kernel_rfl) ?_))))
            refine ⟨.k1, by decide, ?_⟩
            refine wk_of [(3, some 3), (4, some 4), (6, some 6)] rfl ⟨rfl, rfl, rfl, ⟨rfl, rfl⟩, ⟨rfl, rfl⟩, trivial⟩ ⟨RowLe.fin rfl rfl rfl rfl rfl ?_, RowLe.fin rfl rfl rfl rfl rfl ⟨trivial, ⟨⟨⟨⟨⟨⟨⟨trivial, ⟨by kernel_rfl, by kernel_rfl⟩⟩, ⟨by kernel_rfl, by kernel_rfl⟩⟩, renI (congrArg (fun b => tcnt f0 (!b) (wr (l + 1))) eD)⟩, ⟨by kernel_rfl, by kernel_rfl⟩⟩, renB eD⟩, ⟨by kernel_rfl, by kernel_rfl⟩⟩, ⟨by kernel_rfl, by kernel_rfl⟩⟩⟩, RowLe.fin rfl rfl rfl rfl rfl ?_, trivial⟩
            all_goals (repeat' first | exact trivial | exact ⟨by kernel_rfl, by kernel_rfl⟩ | exact Or.inr (by kernel_rfl) | (show _ = _; kernel_rfl) | refine ⟨?_, ?_⟩)
        · refine Brn.mk (fun _ => ?_) (fun q => absurd q (by decide +kernel))
          refine Brn.mk (fun q => ?_) (fun q => ?_)
          · have q : (OI.mk e l a t p f0 f1 h r0 r1 b0 b1).off = false := by cases hq : (OI.mk e l a t p f0 f1 h r0 r1 b0 b1).off with | false => rfl | true => exact absurd (show (!(OI.mk e l a t p f0 f1 h r0 r1 b0 b1).off) = true from q) (by rw [hq]; decide)
            have eD : (!tst e l 1 (OI.mk e l a t p f0 f1 h r0 r1 b0 b1).t2) = (OI.mk e l a t p f0 f1 h r0 r1 b0 b1).d 1 := by show _ = (!(OI.mk e l a t p f0 f1 h r0 r1 b0 b1).off && !tst e l 1 (OI.mk e l a t p f0 f1 h r0 r1 b0 b1).t2); rw [q]; rfl
            refine Chk.mk i1 (Chk.mk i1 (Chk.mk i1 (Chk.mk i1 (Chk.mk (by kernel_rfl) ?_))))
            refine ⟨.k2, by decide, ?_⟩
            refine wk_of [(3, some 3), (4, some 4), (6, some 6)] rfl ⟨rfl, rfl, rfl, ⟨rfl, rfl⟩, ⟨rfl, rfl⟩, trivial⟩ ⟨RowLe.fin rfl rfl rfl rfl rfl ?_, RowLe.fin rfl rfl rfl rfl rfl ⟨trivial, ⟨⟨⟨⟨⟨⟨⟨trivial, ⟨by kernel_rfl, by kernel_rfl⟩⟩, ⟨by kernel_rfl, by kernel_rfl⟩⟩, ⟨by kernel_rfl, by kernel_rfl⟩⟩, renI (congrArg (fun b => tcnt f1 (!b) (wr (l + 1))) eD)⟩, ⟨by kernel_rfl, by kernel_rfl⟩⟩, renB eD⟩, ⟨by kernel_rfl, by kernel_rfl⟩⟩⟩, RowLe.fin rfl rfl rfl rfl rfl ?_, trivial⟩
            all_goals (repeat' first | exact trivial | exact ⟨by kernel_rfl, by kernel_rfl⟩ | exact Or.inr (by kernel_rfl) | (show _ = _; kernel_rfl) | refine ⟨?_, ?_⟩)
          · have q : (OI.mk e l a t p f0 f1 h r0 r1 b0 b1).off = true := by cases hq : (OI.mk e l a t p f0 f1 h r0 r1 b0 b1).off with | true => rfl | false => exact absurd (show (!(OI.mk e l a t p f0 f1 h r0 r1 b0 b1).off) = false from q) (by rw [hq]; decide)
            have eD : false = (OI.mk e l a t p f0 f1 h r0 r1 b0 b1).d 1 := by show _ = (!(OI.mk e l a t p f0 f1 h r0 r1 b0 b1).off && !tst e l 1 (OI.mk e l a t p f0 f1 h r0 r1 b0 b1).t2); rw [q]; rfl
            refine Chk.mk i1 (Chk.mk i1 (Chk.mk i1 (Chk.mk i1 (Chk.mk (by kernel_rfl) ?_))))
            refine ⟨.k2, by decide, ?_⟩
            refine wk_of [(3, some 3), (4, some 4), (6, some 6)] rfl ⟨rfl, rfl, rfl, ⟨rfl, rfl⟩, ⟨rfl, rfl⟩, trivial⟩ ⟨RowLe.fin rfl rfl rfl rfl rfl ?_, RowLe.fin rfl rfl rfl rfl rfl ⟨trivial, ⟨⟨⟨⟨⟨⟨⟨trivial, ⟨by kernel_rfl, by kernel_rfl⟩⟩, ⟨by kernel_rfl, by kernel_rfl⟩⟩, ⟨by kernel_rfl, by kernel_rfl⟩⟩, renI (congrArg (fun b => tcnt f1 (!b) (wr (l + 1))) eD)⟩, ⟨by kernel_rfl, by kernel_rfl⟩⟩, renB eD⟩, ⟨by kernel_rfl, by kernel_rfl⟩⟩⟩, RowLe.fin rfl rfl rfl rfl rfl ?_, trivial⟩
            all_goals (repeat' first | exact trivial | exact ⟨by kernel_rfl, by kernel_rfl⟩ | exact Or.inr (by kernel_rfl) | (show _ = _; kernel_rfl) | refine ⟨?_, ?_⟩)
        · refine Brn.mk (fun q => absurd q (by decide +kernel)) (fun _ => ?_)
          exact AVle.tup2 (.agg rfl) (.nilErr rfl)

      · have q : (OI.mk e l a t p f0 f1 h r0 r1 b0 b1).l2 = false := q
        refine Brn.mk (fun q2 => ?_) (fun q2 => ?_)
        · have q2 : decide (a < (OI.mk e l a t p f0 f1 h r0 r1 b0 b1).ap) = true := q2
          have el : decide (a < (OI.mk e l a t p f0 f1 h r0 r1 b0 b1).ap) = (OI.mk e l a t p f0 f1 h r0 r1 b0 b1).l3 := by show decide (a < (OI.mk e l a t p f0 f1 h r0 r1 b0 b1).ap) = ((OI.mk e l a t p f0 f1 h r0 r1 b0 b1).l2 || decide (a < (OI.mk e l a t p f0 f1 h r0 r1 b0 b1).ap)); rw [q]; rfl
          have eo : true = (OI.mk e l a t p f0 f1 h r0 r1 b0 b1).off := by show true = ((OI.mk e l a t p f0 f1 h r0 r1 b0 b1).l3 || (r0 || r1)); rw [← el]; rw [q2]; rfl
          have et : 0 = (OI.mk e l a t p f0 f1 h r0 r1 b0 b1).t2 := by rw [OI.t2, ← eo]; rfl
          (repeat first | refine Chk.mk rfl ?_ | refine Chk.mk he ?_ | refine Chk.mk (by kernel_rfl) ?_ | refine Brn.mk (fun _ => ?_) (fun h => absurd (show true = false from h) (by decide)))
          refine LoopOK.mk ⟨K3, OI.st2 (OI.mk e l a t p f0 f1 h r0 r1 b0 b1) d0 d1, fun k => 2 - k.n, ⟨.k0, ?_⟩, ?_⟩
          · refine wk_of [(3, some 3), (4, some 4), (6, some 6)] rfl ⟨rfl, rfl, rfl, renB eo, ⟨rfl, rfl⟩, trivial⟩ ⟨RowLe.fin rfl rfl rfl rfl rfl ?_, RowLe.fin rfl rfl rfl rfl rfl ⟨trivial, ⟨⟨⟨⟨⟨⟨⟨trivial, renI et⟩, ⟨by kernel_rfl, by kernel_rfl⟩⟩, ⟨by kernel_rfl, by kernel_rfl⟩⟩, ⟨by kernel_rfl, by kernel_rfl⟩⟩, ⟨by kernel_rfl, by kernel_rfl⟩⟩, ⟨by kernel_rfl, by kernel_rfl⟩⟩, renB el⟩⟩, RowLe.fin rfl rfl rfl rfl rfl ?_, trivial⟩
            all_goals (repeat' first | exact trivial | exact ⟨by kernel_rfl, by kernel_rfl⟩ | exact Or.inr (by kernel_rfl) | (show _ = _; kernel_rfl) | refine ⟨?_, ?_⟩)
          rintro (_ | _ | _)
          · refine Brn.mk (fun _ => ?_) (fun q => absurd q (by decide +kernel))
            refine Brn.mk (fun q => ?_) (fun q => ?_)
            · have q : (OI.mk e l a t p f0 f1 h r0 r1 b0 b1).off = false := by cases hq : (OI.mk e l a t p f0 f1 h r0 r1 b0 b1).off with | false => rfl | true => exact absurd (show (!(OI.mk e l a t p f0 f1 h r0 r1 b0 b1).off) = true from q) (by rw [hq]; decide)
              have eD : (!tst e l 0 (OI.mk e l a t p f0 f1 h r0 r1 b0 b1).t2) = (OI.mk e l a t p f0 f1 h r0 r1 b0 b1).d 0 := by show _ = (!(OI.mk e l a t p f0 f1 h r0 r1 b0 b1).off && !tst e l 0 (OI.mk e l a t p f0 f1 h r0 r1 b0 b1).t2); rw [q]; rfl
              refine Chk.mk i0 (Chk.mk i0 (Chk.mk i0 (Chk.mk i0 (Chk.mk (by kernel_rfl) ?_))))
              refine ⟨.k1, by decide, ?_⟩
              refine wk_of [(3, some 3), (4, some 4), (6, some 6)] rfl ⟨rfl, rfl, rfl, ⟨rfl, rfl⟩, ⟨rfl, rfl⟩, trivial⟩ ⟨RowLe.fin rfl rfl rfl rfl rfl ?_, RowLe.fin rfl rfl rfl rfl rfl ⟨trivial, ⟨⟨⟨⟨⟨⟨⟨trivial, ⟨by kernel_rfl, by kernel_rfl⟩⟩, ⟨by kernel_rfl, by kernel_rfl⟩⟩, renI (congrArg (fun b => tcnt f0 (!b) (wr (l + 1))) eD)⟩, ⟨by kernel_rfl, by kernel_rfl⟩⟩, renB eD⟩, ⟨by kernel_rfl, by kernel_rfl⟩⟩, ⟨by kernel_rfl, by kernel_rfl⟩⟩⟩, RowLe.fin rfl rfl rfl rfl rfl ?_, trivial⟩
              all_goals (repeat' first | exact trivial | exact ⟨by kernel_rfl, by kernel_rfl⟩ | exact Or.inr (by kernel_rfl) | (show _ = _; kernel_rfl) | refine ⟨?_, ?_⟩)
            · have q : (OI.mk e l a t p f0 f1 h r0 r1 b0 b1).off = true := by cases hq : (OI.mk e l a t p f0 f1 h r0 r1 b0 b1).off with | true => rfl | false => exact absurd (show (!(OI.mk e l a t p f0 f1 h r0 r1 b0 b1).off) = false from q) (by rw [hq]; decide)
              have eD : false = (OI.mk e l a t p f0 f1 h r0 r1 b0 b1).d 0 := by show _ = (!(OI.mk e l a t p f0 f1 h r0 r1 b0 b1).off && !tst e l 0 (OI.mk e l a t p f0 f1 h r0 r1 b0 b1).t2); rw [q]; rfl
              refine Chk.mk i0 (Chk.mk i0 (Chk.mk i0 (Chk.mk i0 (Chk.mk (by kernel_rfl) ?_))))
              refine ⟨.k1, by decide, ?_⟩
              refine wk_of [(3, some 3), (4, some 4), (6, some 6)] rfl ⟨rfl, rfl, rfl, ⟨rfl, rfl⟩, ⟨rfl, rfl⟩, trivial⟩ ⟨RowLe.fin rfl rfl rfl rfl rfl ?_, RowLe.fin rfl rfl rfl rfl rfl ⟨trivial, ⟨⟨⟨⟨⟨⟨⟨trivial, ⟨by kernel_rfl, by kernel_rfl⟩⟩, ⟨by kernel_rfl, by kernel_rfl⟩⟩, renI (congrArg (fun b => tcnt f0 (!b) (wr (l + 1))) eD)⟩, ⟨by kernel_rfl, by kernel_rfl⟩⟩, renB eD⟩, ⟨by kernel_rfl, by kernel_rfl⟩⟩, ⟨by kernel_rfl, by kernel_rfl⟩⟩⟩, RowLe.fin rfl rfl rfl rfl rfl ?_, trivial⟩
              all_goals (repeat' first | exact trivial | exact ⟨by kernel_rfl, by kernel_rfl⟩ | exact Or.inr (by kernel_rfl) | (show _ = _; kernel_rfl) | refine ⟨?_, ?_⟩)
          · refine Brn.mk (fun _ => ?_) (fun q => absurd q (by decide +kernel))
            refine Brn.mk (fun q => ?_) (fun q => ?_)
            · have q : (OI.mk e l a t p f0 f1 h r0 r1 b0 b1).off = false := by cases hq : (OI.mk e l a t p f0 f1 h r0 r1 b0 b1).off with | false => rfl | true => exact absurd (show (!(OI.mk e l a t p f0 f1 h r0 r1 b0 b1).off) = true from q) (by rw [hq]; decide)
              have eD : (!tst e l 1 (OI.mk e l a t p f0 f1 h r0 r1 b0 b1).t2) = (OI.mk e l a t p f0 f1 h r0 r1 b0 b1).d 1 := by show _ = (!(OI.mk e l a t p f0 f1 h r0 r1 b0 b1).off && !tst e l 1 (OI.mk e l a t p f0 f1 h r0 r1 b0 b1).t2); rw [q]; rfl
              refine Chk.mk i1 (Chk.mk i1 (Chk.mk i1 (Chk.mk i1 (Chk.mk (by kernel_rfl) ?_))))
              refine ⟨.k2, by decide, ?_⟩
              refine wk_of [(3, some 3), (4, some 4), (6, some 6)] rfl ⟨rfl, rfl, rfl, ⟨rfl, rfl⟩, ⟨rfl, rfl⟩, trivial⟩ ⟨RowLe.fin rfl rfl rfl rfl rfl ?_, RowLe.fin rfl rfl rfl rfl rfl ⟨trivial, ⟨⟨⟨⟨⟨⟨⟨trivial, ⟨by kernel_rfl, by kernel_rfl⟩⟩, ⟨by kernel_rfl, by kernel_rfl⟩⟩, ⟨by kernel_rfl, by kernel_rfl⟩⟩, renI (congrArg (fun b => tcnt f1 (!b) (wr (l + 1))) eD)⟩, ⟨by kernel_rfl, by kernel_rfl⟩⟩, renB eD⟩, ⟨by kernel_rfl, by kernel_rfl⟩⟩⟩, RowLe.fin rfl rfl rfl rfl rfl ?_, trivial⟩
              all_goals (repeat' first | exact trivial | exact ⟨by kernel_rfl, by kernel_rfl⟩ | exact Or.inr (by kernel_rfl) | (show _ = _; kernel_rfl) | refine ⟨?_, ?_⟩)
            · have q : (OI.mk e l a t p f0 f1 h r0 r1 b0 b1).off = true := by cases hq : (OI.mk e l a t p f0 f1 h r0 r1 b0 b1).off with | true => rfl | false => exact absurd (show (!(OI.mk e l a t p f0 f1 h r0 r1 b0 b1).off) = false from q) (by rw [hq]; decide)
              have eD : false = (OI.mk e l a t p f0 f1 h r0 r1 b0 b1).d 1 := by show _ = (!(OI.mk e l a t p f0 f1 h r0 r1 b0 b1).off && !tst e l 1 (OI.mk e l a t p f0 f1 h r0 r1 b0 b1).t2); rw [q]; rfl
              refine Chk.mk i1 (Chk.mk i1 (Chk.mk i1 (Chk.mk i1 (Chk.mk (by kernel_rfl) ?_))))
              refine ⟨.k2, by decide, ?_⟩
              refine wk_of [(3, some 3), (4, some 4), (6, some 6)] rfl ⟨rfl, rfl, rfl, ⟨rfl, rfl⟩, ⟨rfl, rfl⟩, trivial⟩ ⟨RowLe.fin rfl rfl rfl rfl rfl ?_, RowLe.fin rfl rfl rfl rfl rfl ⟨trivial, ⟨⟨⟨⟨⟨⟨⟨trivial, ⟨by kernel_rfl, by kernel_rfl⟩⟩, ⟨by kernel_rfl, by kernel_rfl⟩⟩, ⟨by kernel_rfl, by kernel_rfl⟩⟩, renI (congrArg (fun b => tcnt f1 (!b) (wr (l + 1))) eD)⟩, ⟨by kernel_rfl, by kernel_rfl⟩⟩, renB eD⟩, ⟨by kernel_rfl, by kernel_rfl⟩⟩⟩, RowLe.fin rfl rfl rfl rfl rfl ?_, trivial⟩
              all_goals (repeat' first | exact trivial | exact ⟨by kernel_rfl, by kernel_rfl⟩ | exact Or.inr (by kernel_rfl) | (show _ = _; kernel_rfl) | refine ⟨?_, ?_⟩)
          · refine Brn.mk (fun q => absurd q (by decide +kernel)) (fun _ => ?_)
            exact AVle.tup2 (.agg rfl) (.nilErr rfl)

        · have q2 : decide (a < (OI.mk e l a t p f0 f1 h r0 r1 b0 b1).ap) = false := q2
          refine Chk.mk rfl ?_
          refine Brn.mk (fun q3 => ?_) (fun q3 => ?_)
          · have q3 : r0 = true := q3
            have el : decide (a < (OI.mk e l a t p f0 f1 h r0 r1 b0 b1).ap) = (OI.mk e l a t p f0 f1 h r0 r1 b0 b1).l3 := by show decide (a < (OI.mk e l a t p f0 f1 h r0 r1 b0 b1).ap) = ((OI.mk e l a t p f0 f1 h r0 r1 b0 b1).l2 || decide (a < (OI.mk e l a t p f0 f1 h r0 r1 b0 b1).ap)); rw [q]; rfl
            have eo : true = (OI.mk e l a t p f0 f1 h r0 r1 b0 b1).off := by show true = ((OI.mk e l a t p f0 f1 h r0 r1 b0 b1).l3 || (r0 || r1)); rw [← el]; rw [q2, q3]; rfl
            have et : 0 = (OI.mk e l a t p f0 f1 h r0 r1 b0 b1).t2 := by rw [OI.t2, ← eo]; rfl
            (repeat first | refine Chk.mk rfl ?_ | refine Chk.mk he ?_ | refine Chk.mk (by kernel_rfl) ?_ | refine Brn.mk (fun _ => ?_) (fun h => absurd (show true = false from h) (by decide)))
            refine LoopOK.mk ⟨K3, OI.st2 (OI.mk e l a t p f0 f1 h r0 r1 b0 b1) d0 d1, fun k => 2 - k.n, ⟨.k0, ?_⟩, ?_⟩
            · refine wk_of [(3, some 3), (4, some 4), (6, some 6)] rfl ⟨rfl, rfl, rfl, renB eo, ⟨rfl, rfl⟩, trivial⟩ ⟨RowLe.fin rfl rfl rfl rfl rfl ?_, RowLe.fin rfl rfl rfl rfl rfl ⟨trivial, ⟨⟨⟨⟨⟨⟨⟨trivial, renI et⟩, ⟨by kernel_rfl, by kernel_rfl⟩⟩, ⟨by kernel_rfl, by kernel_rfl⟩⟩, ⟨by kernel_rfl, by kernel_rfl⟩⟩, ⟨by kernel_rfl, by kernel_rfl⟩⟩, ⟨by kernel_rfl, by kernel_rfl⟩⟩, renB el⟩⟩, RowLe.fin rfl rfl rfl rfl rfl ?_, trivial⟩
              all_goals (repeat' first | exact trivial | exact ⟨by kernel_rfl, by kernel_rfl⟩ | exact Or.inr (by kernel_rfl) | (show _ = _; kernel_rfl) | refine ⟨?_, ?_⟩)
            rintro (_ | _ | _)
            · refine Brn.mk (fun _ => ?_) (fun q => absurd q (by decide +kernel))
              refine Brn.mk (fun q => ?_) (fun q => ?_)
              · have q : (OI.mk e l a t p f0 f1 h r0 r1 b0 b1).off = false := by cases hq : (OI.mk e l a t p f0 f1 h r0 r1 b0 b1).off with | false => rfl | true => exact absurd (show (!(OI.mk e l a t p f0 f1 h r0 r1 b0 b1).off) = true from q) (by rw [hq]; decide)
                have eD : (!tst e l 0 (OI.mk e l a t p f0 f1 h r0 r1 b0 b1).t2) = (OI.mk e l a t p f0 f1 h r0 r1 b0 b1).d 0 := by show _ = (!(OI.mk e l a t p f0 f1 h r0 r1 b0 b1).off && !tst e l 0 (OI.mk e l a t p f0 f1 h r0 r1 b0 b1).t2); rw [q]; rfl
                refine Chk.mk i0 (Chk.mk i0 (Chk.mk i0 (Chk.mk i0 (Chk.mk (by kernel_rfl) ?_))))
                refine ⟨.k1, by decide, ?_⟩
                refine wk_of [(3, some 3), (4, some 4), (6, some 6)] rfl ⟨rfl, rfl, rfl, ⟨rfl, rfl⟩, ⟨rfl, rfl⟩, trivial⟩ ⟨RowLe.fin rfl rfl rfl rfl rfl ?_, RowLe.fin rfl rfl rfl rfl rfl ⟨trivial, ⟨⟨⟨⟨⟨⟨⟨trivial, ⟨by kernel_rfl, by kernel_rfl⟩⟩, ⟨by kernel_rfl, by kernel_rfl⟩⟩, renI (congrArg (fun b => tcnt f0 (!b) (wr (l + 1))) eD)⟩, ⟨by kernel_rfl, by kernel_rfl⟩⟩, renB eD⟩, ⟨by kernel_rfl, by kernel_rfl⟩⟩, ⟨by kernel_rfl, by kernel_rfl⟩⟩⟩, RowLe.fin rfl rfl rfl rfl rfl ?_, trivial⟩
                all_goals (repeat' first | exact trivial | exact ⟨by kernel_rfl, by kernel_rfl⟩ | exact Or.inr (by kernel_rfl) | (show _ = _; kernel_rfl) | refine ⟨?_, ?_⟩)
              · have q : (OI.mk e l a t p f0 f1 h r0 r1 b0 b1).off = true := by cases hq : (OI.mk e l a t p f0 f1 h r0 r1 b0 b1).off with | true => rfl | false => exact absurd (show (!(OI.mk e l a t p f0 f1 h r0 r1 b0 b1).off) = false from q) (by rw [hq]; decide)
                have eD : false = (OI.mk e l a t p f0 f1 h r0 r1 b0 b1).d 0 := by show _ = (!(OI.mk e l a t p f0 f1 h r0 r1 b0 b1).off && !tst e l 0 (OI.mk e l a t p f0 f1 h r0 r1 b0 b1).t2); rw [q]; rfl
                refine Chk.mk i0 (Chk.mk i0 (Chk.mk i0 (Chk.mk i0 (Chk.mk (by kernel_rfl) ?_))))
                refine ⟨.k1, by decide, ?_⟩
                refine wk_of [(3, some 3), (4, some 4), (6, some 6)] rfl ⟨rfl, rfl, rfl, ⟨rfl, rfl⟩, ⟨rfl, rfl⟩, trivial⟩ ⟨RowLe.fin rfl rfl rfl rfl rfl ?_, RowLe.fin rfl rfl rfl rfl rfl ⟨trivial, ⟨⟨⟨⟨⟨⟨⟨trivial, ⟨by kernel_rfl, by kernel_rfl⟩⟩, ⟨by kernel_rfl, by kernel_rfl⟩⟩, renI (congrArg (fun b => tcnt f0 (!b) (wr (l + 1))) eD)⟩, ⟨by kernel_rfl, by kernel_rfl⟩⟩, renB eD⟩, ⟨by kernel_rfl, by kernel_rfl⟩⟩, ⟨by kernel_rfl, by kernel_rfl⟩⟩⟩, RowLe.fin rfl rfl rfl rfl rfl ?_, trivial⟩
                all_goals (repeat' first | exact trivial | exact ⟨by kernel_rfl, by kernel_rfl⟩ | exact Or.inr (by kernel_rfl) | (show _ = _; kernel_rfl) | refine ⟨?_, ?_⟩)
            · refine Brn.mk (fun _ => ?_) (fun q => absurd q (by decide +kernel))
              refine Brn.mk (fun q => ?_) (fun q => ?_)
              · have q : (OI.mk e l a t p f0 f1 h r0 r1 b0 b1).off = false := by cases hq : (OI.mk e l a t p f0 f1 h r0 r1 b0 b1).off with | false => rfl | true => exact absurd (show (!(OI.mk e l a t p f0 f1 h r0 r1 b0 b1).off) = true from q) (by rw [hq]; decide)
                have eD : (!tst e l 1 (OI.mk e l a t p f0 f1 h r0 r1 b0 b1).t2) = (OI.mk e l a t p f0 f1 h r0 r1 b0 b1).d 1 := by show _ = (!(OI.mk e l a t p f0 f1 h r0 r1 b0 b1).off && !tst e l 1 (OI.mk e l a t p f0 f1 h r0 r1 b0 b1).t2); rw [q]; rfl
                refine Chk.mk i1 (Chk.mk i1 (Chk.mk i1 (Chk.mk i1 (Chk.mk (by kernel_rfl) ?_))))
                refine ⟨.k2, by decide, ?_⟩
                refine wk_of [(3, some 3), (4, some 4), (6, some 6)] rfl ⟨rfl, rfl, rfl, ⟨rfl, rfl⟩, ⟨rfl, rfl⟩, trivial⟩ ⟨RowLe.fin rfl rfl rfl rfl rfl ?_, RowLe.fin rfl rfl rfl rfl rfl ⟨trivial, ⟨⟨⟨⟨⟨⟨⟨trivial, ⟨by kernel_rfl, by kernel_rfl⟩⟩, ⟨by kernel_rfl, by kernel_rfl⟩⟩, ⟨by kernel_rfl, by kernel_rfl⟩⟩, renI (congrArg (fun b => tcnt f1 (!b) (wr (l + 1))) eD)⟩, ⟨by kernel_rfl, by kernel_rfl⟩⟩, renB eD⟩, ⟨by kernel_rfl, by kernel_rfl⟩⟩⟩, RowLe.fin rfl rfl rfl rfl rfl ?_, trivial⟩
                all_goals (repeat' first | exact trivial | exact ⟨by kernel_rfl, by kernel_rfl⟩ | exact Or.inr (by kernel_rfl) | (show _ = _; kernel_rfl) | refine ⟨?_, ?_⟩)
              · have q : (OI.mk e l a t p f0 f1 h r0 r1 b0 b1).off = true := by cases hq : (OI.mk e l a t p f0 f1 h r0 r1 b0 b1).off with | true => rfl | false => exact absurd (show (!(OI.mk e l a t p f0 f1 h r0 r1 b0 b1).off) = false from q) (by rw [hq]; decide)
                have eD : false = (OI.mk e l a t p f0 f1 h r0 r1 b0 b1).d 1 := by show _ = (!(OI.mk e l a t p f0 f1 h r0 r1 b0 b1).off && !tst e l 1 (OI.mk e l a t p f0 f1 h r0 r1 b0 b1).t2); rw [q]; rfl
                refine Chk.mk i1 (Chk.mk i1 (Chk.mk i1 (Chk.mk i1 (Chk.mk (by kernel_rfl) ?_))))
                refine ⟨.k2, by decide, ?_⟩
                refine wk_of [(3, some 3), (4, some 4), (6, some 6)] rfl ⟨rfl, rfl, rfl, ⟨rfl, rfl⟩, ⟨rfl, rfl⟩, trivial⟩ ⟨RowLe.fin rfl rfl rfl rfl rfl ?_, RowLe.fin rfl rfl rfl rfl rfl ⟨trivial, ⟨⟨⟨⟨⟨⟨⟨trivial, ⟨by kernel_rfl, by kernel_rfl⟩⟩, ⟨by kernel_rfl, by kernel_rfl⟩⟩, ⟨by kernel_rfl, by kernel_rfl⟩⟩, renI (congrArg (fun b => tcnt f1 (!b) (wr (l + 1))) eD)⟩, ⟨by kernel_rfl, by kernel_rfl⟩⟩, renB eD⟩, ⟨by kernel_rfl, by kernel_rfl⟩⟩⟩, RowLe.fin rfl rfl rfl rfl rfl ?_, trivial⟩
                all_goals (repeat' first | exact trivial | exact ⟨by kernel_rfl, by kernel_rfl⟩ | exact Or.inr (by kernel_rfl) | (show _ = _; kernel_rfl) | refine ⟨?_, ?_⟩)
            · refine Brn.mk (fun q => absurd q (by decide +kernel)) (fun _ => ?_)
              exact AVle.tup2 (.agg rfl) (.nilErr rfl)

          · have q3 : r0 = false := q3
            refine Chk.mk rfl ?_
            (repeat first | refine Chk.mk rfl ?_ | refine Chk.mk he ?_ | refine Chk.mk (by kernel_rfl) ?_ | refine Brn.mk (fun _ => ?_) (fun h => absurd (show true = false from h) (by decide)))
            refine Brn.mk (fun q4 => ?_) (fun q4 => ?_)
            · have q4 : r1 = true := q4
              have el : decide (a < (OI.mk e l a t p f0 f1 h r0 r1 b0 b1).ap) = (OI.mk e l a t p f0 f1 h r0 r1 b0 b1).l3 := by show decide (a < (OI.mk e l a t p f0 f1 h r0 r1 b0 b1).ap) = ((OI.mk e l a t p f0 f1 h r0 r1 b0 b1).l2 || decide (a < (OI.mk e l a t p f0 f1 h r0 r1 b0 b1).ap)); rw [q]; rfl
              have eo : true = (OI.mk e l a t p f0 f1 h r0 r1 b0 b1).off := by show true = ((OI.mk e l a t p f0 f1 h r0 r1 b0 b1).l3 || (r0 || r1)); rw [← el]; rw [q2, q3, q4]; rfl
              have et : 0 = (OI.mk e l a t p f0 f1 h r0 r1 b0 b1).t2 := by rw [OI.t2, ← eo]; rfl
              refine LoopOK.mk ⟨K3, OI.st2 (OI.mk e l a t p f0 f1 h r0 r1 b0 b1) d0 d1, fun k => 2 - k.n, ⟨.k0, ?_⟩, ?_⟩
              · refine wk_of [(3, some 3), (4, some 4), (6, some 6)] rfl ⟨rfl, rfl, rfl, renB (q4.trans eo), ⟨rfl, rfl⟩, trivial⟩ ⟨RowLe.fin rfl rfl rfl rfl rfl ?_, RowLe.fin rfl rfl rfl rfl rfl ⟨trivial, ⟨⟨⟨⟨⟨⟨⟨trivial, renI et⟩, ⟨by kernel_rfl, by kernel_rfl⟩⟩, ⟨by kernel_rfl, by kernel_rfl⟩⟩, ⟨by kernel_rfl, by kernel_rfl⟩⟩, ⟨by kernel_rfl, by kernel_rfl⟩⟩, ⟨by kernel_rfl, by kernel_rfl⟩⟩, renB el⟩⟩, RowLe.fin rfl rfl rfl rfl rfl ?_, trivial⟩
                all_goals (repeat' first | exact trivial | exact ⟨by kernel_rfl, by kernel_rfl⟩ | exact Or.inr (by kernel_rfl) | (show _ = _; kernel_rfl) | refine ⟨?_, ?_⟩)
              rintro (_ | _ | _)
              · refine Brn.mk (fun _ => ?_) (fun q => absurd q (by decide +kernel))
                refine Brn.mk (fun q => ?_) (fun q => ?_)
                · have q : (OI.mk e l a t p f0 f1 h r0 r1 b0 b1).off = false := by cases hq : (OI.mk e l a t p f0 f1 h r0 r1 b0 b1).off with | false => rfl | true => exact absurd (show (!(OI.mk e l a t p f0 f1 h r0 r1 b0 b1).off) = true from q) (by rw [hq]; decide)
                  have eD : (!tst e l 0 (OI.mk e l a t p f0 f1 h r0 r1 b0 b1).t2) = (OI.mk e l a t p f0 f1 h r0 r1 b0 b1).d 0 := by show _ = (!(OI.mk e l a t p f0 f1 h r0 r1 b0 b1).off && !tst e l 0 (OI.mk e l a t p f0 f1 h r0 r1 b0 b1).t2); rw [q]; rfl
                  refine Chk.mk i0 (Chk.mk i0 (Chk.mk i0 (Chk.mk i0 (Chk.mk (by kernel_rfl) ?_))))
                  refine ⟨.k1, by decide, ?_⟩
                  refine wk_of [(3, some 3), (4, some 4), (6, some 6)] rfl ⟨rfl, rfl, rfl, ⟨rfl, rfl⟩, ⟨rfl, rfl⟩, trivial⟩ ⟨RowLe.fin rfl rfl rfl rfl rfl ?_, RowLe.fin rfl rfl rfl rfl rfl ⟨trivial, ⟨⟨⟨⟨⟨⟨⟨trivial, ⟨by kernel_rfl, by kernel_rfl⟩⟩, ⟨by kernel_rfl, by kernel_rfl⟩⟩, renI (congrArg (fun b => tcnt f0 (!b) (wr (l + 1))) eD)⟩, ⟨by kernel_rfl, by kernel_rfl⟩⟩, renB eD⟩, ⟨by kernel_rfl, by kernel_rfl⟩⟩, ⟨by kernel_rfl, by kernel_rfl⟩⟩⟩, RowLe.fin rfl rfl rfl rfl rfl ?_, trivial⟩
                  all_goals (repeat' first | exact trivial | exact ⟨by kernel_rfl, by kernel_rfl⟩ | exact Or.inr (by kernel_rfl) | (show _ = _; kernel_rfl) | refine ⟨?_, ?_⟩)
                · have q : (OI.mk e l a t p f0 f1 h r0 r1 b0 b1).off = true := by cases hq : (OI.mk e l a t p f0 f1 h r0 r1 b0 b1).off with | true => rfl | false => exact absurd (show (!(OI.mk e l a t p f0 f1 h r0 r1 b0 b1).off) = false from q) (by rw [hq]; decide)
                  have eD : false = (OI.mk e l a t p f0 f1 h r0 r1 b0 b1).d 0 := by show _ = (!(OI.mk e l a t p f0 f1 h r0 r1 b0 b1).off && !tst e l 0 (OI.mk e l a t p f0 f1 h r0 r1 b0 b1).t2); rw [q]; rfl
                  refine Chk.mk i0 (Chk.mk i0 (Chk.mk i0 (Chk.mk i0 (Chk.mk (by kernel_rfl) ?_))))
                  refine ⟨.k1, by decide, ?_⟩
                  refine wk_of [(3, some 3), (4, some 4), (6, some 6)] rfl ⟨rfl, rfl, rfl, ⟨rfl, rfl⟩, ⟨rfl, rfl⟩, trivial⟩ ⟨RowLe.fin rfl rfl rfl rfl rfl ?_, RowLe.fin rfl rfl rfl rfl rfl ⟨trivial, ⟨⟨⟨⟨⟨⟨⟨trivial, ⟨by kernel_rfl, by kernel_rfl⟩⟩, ⟨by kernel_rfl, by kernel_rfl⟩⟩, renI (congrArg (fun b => tcnt f0 (!b) (wr (l + 1))) eD)⟩, ⟨by kernel_rfl, by kernel_rfl⟩⟩, renB eD⟩, ⟨by kernel_rfl, by kernel_rfl⟩⟩, ⟨by kernel_rfl, by kernel_rfl⟩⟩⟩, RowLe.fin rfl rfl rfl rfl rfl ?_, trivial⟩
                  all_goals (repeat' first | exact trivial | exact ⟨by kernel_rfl, by kernel_rfl⟩ | exact Or.inr (by kernel_rfl) | (show _ = _; kernel_rfl) | refine ⟨?_, ?_⟩)
              · refine Brn.mk (fun _ => ?_) (fun q => absurd q (by decide +kernel))
                refine Brn.mk (fun q => ?_) (fun q => ?_)
                · have q : (OI.mk e l a t p f0 f1 h r0 r1 b0 b1).off = false := by cases hq : (OI.mk e l a t p f0 f1 h r0 r1 b0 b1).off with | false => rfl | true => exact absurd (show (!(OI.mk e l a t p f0 f1 h r0 r1 b0 b1).off) = true from q) (by rw [hq]; decide)
                  have eD : (!tst e l 1 (OI.mk e l a t p f0 f1 h r0 r1 b0 b1).t2) = (OI.mk e l a t p f0 f1 h r0 r1 b0 b1).d 1 := by show _ = (!(OI.mk e l a t p f0 f1 h r0 r1 b0 b1).off && !tst e l 1 (OI.mk e l a t p f0 f1 h r0 r1 b0 b1).t2); rw [q]; rfl
                  refine Chk.mk i1 (Chk.mk i1 (Chk.mk i1 (Chk.mk i1 (Chk.mk (by kernel_rfl) ?_))))
                  refine ⟨.k2, by decide, ?_⟩
                  refine wk_of [(3, some 3), (4, some 4), (6, some 6)] rfl ⟨rfl, rfl, rfl, ⟨rfl, rfl⟩, ⟨rfl, rfl⟩, trivial⟩ ⟨RowLe.fin rfl rfl rfl rfl rfl ?_, RowLe.fin rfl rfl rfl rfl rfl ⟨trivial, ⟨⟨⟨⟨⟨⟨⟨trivial, ⟨by kernel_rfl, by kernel_rfl⟩⟩, ⟨by kernel_rfl, by kernel_rfl⟩⟩, ⟨by kernel_rfl, by kernel_rfl⟩⟩, renI (congrArg (fun b => tcnt f1 (!b) (wr (l + 1))) eD)⟩, ⟨by kernel_rfl, by kernel_rfl⟩⟩, renB eD⟩, ⟨by kernel_rfl, by kernel_rfl⟩⟩⟩, RowLe.fin rfl rfl rfl rfl rfl ?_, trivial⟩
                  all_goals (repeat' first | exact trivial | exact ⟨by kernel_rfl, by kernel_rfl⟩ | exact Or.inr (by kernel_rfl) | (show _ = _; kernel_rfl) | refine ⟨?_, ?_⟩)
                · have q : (OI.mk e l a t p f0 f1 h r0 r1 b0 b1).off = true := by cases hq : (OI.mk e l a t p f0 f1 h r0 r1 b0 b1).off with | true => rfl | false => exact absurd (show (!(OI.mk e l a t p f0 f1 h r0 r1 b0 b1).off) = false from q) (by rw [hq]; decide)
                  have eD : false = (OI.mk e l a t p f0 f1 h r0 r1 b0 b1).d 1 := by show _ = (!(OI.mk e l a t p f0 f1 h r0 r1 b0 b1).off && !tst e l 1 (OI.mk e l a t p f0 f1 h r0 r1 b0 b1).t2); rw [q]; rfl
                  refine Chk.mk i1 (Chk.mk i1 (Chk.mk i1 (Chk.mk i1 (Chk.mk (by kernel_rfl) ?_))))
                  refine ⟨.k2, by decide, ?_⟩
                  refine wk_of [(3, some 3), (4, some 4), (6, some 6)] rfl ⟨rfl, rfl, rfl, ⟨rfl, rfl⟩, ⟨rfl, rfl⟩, trivial⟩ ⟨RowLe.fin rfl rfl rfl rfl rfl ?_, RowLe.fin rfl rfl rfl rfl rfl ⟨trivial, ⟨⟨⟨⟨⟨⟨⟨trivial, ⟨by kernel_rfl, by kernel_rfl⟩⟩, ⟨by kernel_rfl, by kernel_rfl⟩⟩, ⟨by kernel_rfl, by kernel_rfl⟩⟩, renI (congrArg (fun b => tcnt f1 (!b) (wr (l + 1))) eD)⟩, ⟨by kernel_rfl, by kernel_rfl⟩⟩, renB eD⟩, ⟨by kernel_rfl, by kernel_rfl⟩⟩⟩, RowLe.fin rfl rfl rfl rfl rfl ?_, trivial⟩
                  all_goals (repeat' first | exact trivial | exact ⟨by kernel_rfl, by kernel_rfl⟩ | exact Or.inr (by kernel_rfl) | (show _ = _; kernel_rfl) | refine ⟨?_, ?_⟩)
              · refine Brn.mk (fun q => absurd q (by decide +kernel)) (fun _ => ?_)
                exact AVle.tup2 (.agg rfl) (.nilErr rfl)

            · have q4 : r1 = false := q4
              have el : decide (a < (OI.mk e l a t p f0 f1 h r0 r1 b0 b1).ap) = (OI.mk e l a t p f0 f1 h r0 r1 b0 b1).l3 := by show decide (a < (OI.mk e l a t p f0 f1 h r0 r1 b0 b1).ap) = ((OI.mk e l a t p f0 f1 h r0 r1 b0 b1).l2 || decide (a < (OI.mk e l a t p f0 f1 h r0 r1 b0 b1).ap)); rw [q]; rfl
              have eo : false = (OI.mk e l a t p f0 f1 h r0 r1 b0 b1).off := by show false = ((OI.mk e l a t p f0 f1 h r0 r1 b0 b1).l3 || (r0 || r1)); rw [← el]; rw [q2, q3, q4]; rfl
              have et : (OI.mk e l a t p f0 f1 h r0 r1 b0 b1).tm = (OI.mk e l a t p f0 f1 h r0 r1 b0 b1).t2 := by rw [OI.t2, ← eo]; rfl
              refine LoopOK.mk ⟨K3, OI.st2 (OI.mk e l a t p f0 f1 h r0 r1 b0 b1) d0 d1, fun k => 2 - k.n, ⟨.k0, ?_⟩, ?_⟩
              · refine wk_of [(3, some 3), (4, some 4), (6, some 6)] rfl ⟨rfl, rfl, rfl, renB (q4.trans eo), ⟨rfl, rfl⟩, trivial⟩ ⟨RowLe.fin rfl rfl rfl rfl rfl ?_, RowLe.fin rfl rfl rfl rfl rfl ⟨trivial, ⟨⟨⟨⟨⟨⟨⟨trivial, renI et⟩, ⟨by kernel_rfl, by kernel_rfl⟩⟩, ⟨by kernel_rfl, by kernel_rfl⟩⟩, ⟨by kernel_rfl, by kernel_rfl⟩⟩, ⟨by kernel_rfl, by kernel_rfl⟩⟩, ⟨by kernel_rfl, by kernel_rfl⟩⟩, renB el⟩⟩, RowLe.fin rfl rfl rfl rfl rfl ?_, trivial⟩
                all_goals (repeat' first | exact trivial | exact ⟨by kernel_rfl, by kernel_rfl⟩ | exact Or.inr (by kernel_rfl) | (show _ = _; kernel_rfl) | refine ⟨?_, ?_⟩)
              rintro (_ | _ | _)
              · refine Brn.mk (fun _ => ?_) (fun q => absurd q (by decide +kernel))
                refine Brn.mk (fun q => ?_) (fun q => ?_)
                · have q : (OI.mk e l a t p f0 f1 h r0 r1 b0 b1).off = false := by cases hq : (OI.mk e l a t p f0 f1 h r0 r1 b0 b1).off with | false => rfl | true => exact absurd (show (!(OI.mk e l a t p f0 f1 h r0 r1 b0 b1).off) = true from q) (by rw [hq]; decide)
                  have eD : (!tst e l 0 (OI.mk e l a t p f0 f1 h r0 r1 b0 b1).t2) = (OI.mk e l a t p f0 f1 h r0 r1 b0 b1).d 0 := by show _ = (!(OI.mk e l a t p f0 f1 h r0 r1 b0 b1).off && !tst e l 0 (OI.mk e l a t p f0 f1 h r0 r1 b0 b1).t2); rw [q]; rfl
                  refine Chk.mk i0 (Chk.mk i0 (Chk.mk i0 (Chk.mk i0 (Chk.mk (by kernel_rfl) ?_))))
                  refine ⟨.k1, by decide, ?_⟩
                  refine wk_of [(3, some 3), (4, some 4), (6, some 6)] rfl ⟨rfl, rfl, rfl, ⟨rfl, rfl⟩, ⟨rfl, rfl⟩, trivial⟩ ⟨RowLe.fin rfl rfl rfl rfl rfl ?_, RowLe.fin rfl rfl rfl rfl rfl ⟨trivial, ⟨⟨⟨⟨⟨⟨⟨trivial, ⟨by kernel_rfl, by kernel_rfl⟩⟩, ⟨by kernel_rfl, by kernel_rfl⟩⟩, renI (congrArg (fun b => tcnt f0 (!b) (wr (l + 1))) eD)⟩, ⟨by kernel_rfl, by kernel_rfl⟩⟩, renB eD⟩, ⟨by kernel_rfl, by kernel_rfl⟩⟩, ⟨by kernel_rfl, by kernel_rfl⟩⟩⟩, RowLe.fin rfl rfl rfl rfl rfl ?_, trivial⟩
                  all_goals (repeat' first | exact trivial | exact ⟨by kernel_rfl, by kernel_rfl⟩ | exact Or.inr (by kernel_rfl) | (show _ = _; kernel_rfl) | refine ⟨?_, ?_⟩)
                · have q : (OI.mk e l a t p f0 f1 h r0 r1 b0 b1).off = true := by cases hq : (OI.mk e l a t p f0 f1 h r0 r1 b0 b1).off with | true => rfl | false => exact absurd (show (!(OI.mk e l a t p f0 f1 h r0 r1 b0 b1).off) = false from q) (by rw [hq]; decide)
                  have eD : false = (OI.mk e l a t p f0 f1 h r0 r1 b0 b1).d 0 := by show _ = (!(OI.mk e l a t p f0 f1 h r0 r1 b0 b1).off && !tst e l 0 (OI.mk e l a t p f0 f1 h r0 r1 b0 b1).t2); rw [q]; rfl
                  refine Chk.mk i0 (Chk.mk i0 (Chk.mk i0 (Chk.mk i0 (Chk.mk (by kernel_rfl) ?_))))
                  refine ⟨.k1, by decide, ?_⟩
                  refine wk_of [(3, some 3), (4, some 4), (6, some 6)] rfl ⟨rfl, rfl, rfl, ⟨rfl, rfl⟩, ⟨rfl, rfl⟩, trivial⟩ ⟨RowLe.fin rfl rfl rfl rfl rfl ?_, RowLe.fin rfl rfl rfl rfl rfl ⟨trivial, ⟨⟨⟨⟨⟨⟨⟨trivial, ⟨by kernel_rfl, by kernel_rfl⟩⟩, ⟨by kernel_rfl, by kernel_rfl⟩⟩, renI (congrArg (fun b => tcnt f0 (!b) (wr (l + 1))) eD)⟩, ⟨by kernel_rfl, by kernel_rfl⟩⟩, renB eD⟩, ⟨by kernel_rfl, by kernel_rfl⟩⟩, ⟨by kernel_rfl, by kernel_rfl⟩⟩⟩, RowLe.fin rfl rfl rfl rfl rfl ?_, trivial⟩
                  all_goals (repeat' first | exact trivial | exact ⟨by kernel_rfl, by kernel_rfl⟩ | exact Or.inr (by kernel_rfl) | (show _ = _; kernel_rfl) | refine ⟨?_, ?_⟩)
              · refine Brn.mk (fun _ => ?_) (fun q => absurd q (by decide +kernel))
                refine Brn.mk (fun q => ?_) (fun q => ?_)
                · have q : (OI.mk e l a t p f0 f1 h r0 r1 b0 b1).off = false := by cases hq : (OI.mk e l a t p f0 f1 h r0 r1 b0 b1).off with | false => rfl | true => exact absurd (show (!(OI.mk e l a t p f0 f1 h r0 r1 b0 b1).off) = true from q) (by rw [hq]; decide)
                  have eD : (!tst e l 1 (OI.mk e l a t p f0 f1 h r0 r1 b0 b1).t2) = (OI.mk e l a t p f0 f1 h r0 r1 b0 b1).d 1 := by show _ = (!(OI.mk e l a t p f0 f1 h r0 r1 b0 b1).off && !tst e l 1 (OI.mk e l a t p f0 f1 h r0 r1 b0 b1).t2); rw [q]; rfl
                  refine Chk.mk i1 (Chk.mk i1 (Chk.mk i1 (Chk.mk i1 (Chk.mk (by kernel_rfl) ?_))))
                  refine ⟨.k2, by decide, ?_⟩
                  refine wk_of [(3, some 3), (4, some 4), (6, some 6)] rfl ⟨rfl, rfl, rfl, ⟨rfl, rfl⟩, ⟨rfl, rfl⟩, trivial⟩ ⟨RowLe.fin rfl rfl rfl rfl rfl ?_, RowLe.fin rfl rfl rfl rfl rfl ⟨trivial, ⟨⟨⟨⟨⟨⟨⟨trivial, ⟨by kernel_rfl, by kernel_rfl⟩⟩, ⟨by kernel_rfl, by kernel_rfl⟩⟩, ⟨by kernel_rfl, by kernel_rfl⟩⟩, renI (congrArg (fun b => tcnt f1 (!b) (wr (l + 1))) eD)⟩, ⟨by kernel_rfl, by kernel_rfl⟩⟩, renB eD⟩, ⟨by kernel_rfl, by kernel_rfl⟩⟩⟩, RowLe.fin rfl rfl rfl rfl rfl ?_, trivial⟩
                  all_goals (repeat' first | exact trivial | exact ⟨by kernel_rfl, by kernel_rfl⟩ | exact Or.inr (by kernel_rfl) | (show _ = _; kernel_rfl) | refine ⟨?_, ?_⟩)
                · have q : (OI.mk e l a t p f0 f1 h r0 r1 b0 b1).off = true := by cases hq : (OI.mk e l a t p f0 f1 h r0 r1 b0 b1).off with | true => rfl | false => exact absurd (show (!(OI.mk e l a t p f0 f1 h r0 r1 b0 b1).off) = false from q) (by rw [hq]; decide)
                  have eD : false = (OI.mk e l a t p f0 f1 h r0 r1 b0 b1).d 1 := by show _ = (!(OI.mk e l a t p f0 f1 h r0 r1 b0 b1).off && !tst e l 1 (OI.mk e l a t p f0 f1 h r0 r1 b0 b1).t2); rw [q]; rfl
                  refine Chk.mk i1 (Chk.mk i1 (Chk.mk i1 (Chk.mk i1 (Chk.mk (by kernel_rfl) ?_))))
                  refine ⟨.k2, by decide, ?_⟩
                  refine wk_of [(3, some 3), (4, some 4), (6, some 6)] rfl ⟨rfl, rfl, rfl, ⟨rfl, rfl⟩, ⟨rfl, rfl⟩, trivial⟩ ⟨RowLe.fin rfl rfl rfl rfl rfl ?_, RowLe.fin rfl rfl rfl rfl rfl ⟨trivial, ⟨⟨⟨⟨⟨⟨⟨trivial, ⟨by kernel_rfl, by kernel_rfl⟩⟩, ⟨by kernel_rfl, by kernel_rfl⟩⟩, ⟨by kernel_rfl, by kernel_rfl⟩⟩, renI (congrArg (fun b => tcnt f1 (!b) (wr (l + 1))) eD)⟩, ⟨by kernel_rfl, by kernel_rfl⟩⟩, renB eD⟩, ⟨by kernel_rfl, by kernel_rfl⟩⟩⟩, RowLe.fin rfl rfl rfl rfl rfl ?_, trivial⟩
                  all_goals (repeat' first | exact trivial | exact ⟨by kernel_rfl, by kernel_rfl⟩ | exact Or.inr (by kernel_rfl) | (show _ = _; kernel_rfl) | refine ⟨?_, ?_⟩)
              · refine Brn.mk (fun q => absurd q (by decide +kernel)) (fun _ => ?_)
                exact AVle.tup2 (.agg rfl) (.nilErr rfl)

  · trivial
end
end Go.Proofs.Ytbhbjmneglkgnaa.Img
