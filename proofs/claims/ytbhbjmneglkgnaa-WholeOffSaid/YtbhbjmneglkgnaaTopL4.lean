/- With one welded channel a request on both channels turns the stage off at the latest Length + 1 ticks later, and the stage stays off as long as the request lasts; then the gates have no switch on. Conditions: none. -/
import Derived.Test.YtbhbjmneglkgnaaTop8
import Derived.Test.YtbhbjmneglkgnaaRows
import Derived.ProofKit
namespace Go.Proofs.Ytbhbjmneglkgnaa
open Go Go.Proofs.Ytbhbjmneglkgnaa.AI Go.Proofs Go.Proofs.Ytbhbjmneglkgnaa.Img Go.ChangeShapes Go.WideShapes Go.ChangeAt Go.RowKit
noncomputable section
set_option maxRecDepth 100000

def wst4 (e l a bf : Int) (n : Int) (b : K3) (s : WS) (m : Nat) : St := mkSt
  [(2, .int .u8 bf), (3, .loc 3 0), (7, .loc 7 0), (9, .loc 9 0), (10, .int .i64 b.v), (11, .loc 11 0), (13, .int .i64 m), (53, .int .i64 n), (54, .int .i64 s.k)]
  [(3, ⟨41, 3, 1, fun _ j => nth [.int .i64 e, .int .i64 l, .int .i64 a] j, 0, true⟩),
   (7, ⟨46, 7, 1, fun _ j => nth [.int .i64 s.t, .int .i64 s.p, .int .i64 s.f0, .int .i64 s.f1, .bit s.d0, .bit s.d1, .bit s.h] j, 0, true⟩),
   (9, ⟨50, 3, 1, fun _ j => nth [.int .i64 s.g0, .int .i64 s.g1, .bit s.o] j, 0, true⟩),
   (11, ⟨44, 2, 1, fun _ j => nth [.bit s.c0, .bit s.c1] j, 0, true⟩)]
set_option maxHeartbeats 8000000 in
theorem law4 (avs : List AV) (H : ArgAll E0 9 [41, 5, 5] avs) : FnOK Try.prog TE 4 avs (.bit true) := by
  obtain ⟨l1, l2, l3, h1, h2, h3, rfl⟩ := argAll3 H
  obtain ⟨e, l, a, rfl⟩ := openOC h1
  obtain ⟨wd, rfl, w0, w1⟩ := openU8 h2
  obtain ⟨bf, rfl, b0, b1⟩ := openU8 h3
  show FnOK Try.prog TE 4 [.agg [.int .i64 e, .int .i64 l, .int .i64 a], .int .u8 wd, .int .u8 bf] (.bit true)
  refine fn_ofF tabsOK (specOK_cons ok5 (specOK_cons ok11 (specOK_cons ok12 (specOK_cons ok13 (specOK_cons ok14 (specOK_cons ok15 (specOK_cons ok16 (specOK_cons ok17 specOK_nil)))))))) mixed Try.func4 (by kernel_rfl) ?_
  refine Brn.mk (fun _ => ?_) (fun hc => ?_)
  · exact AVle.bit rfl
  have hc : ochk e l a = 0 := ndF hc
  refine Brn.mk (fun _ => AVle.bit rfl) (fun _ => ?_)
  obtain ⟨⟨hl0, hl1⟩, _, _⟩ := ochk_zero hc
  obtain ⟨b, hb⟩ := K3.of w0
  have hbf : IntKind.i64.wrap bf = bf := wr8 ⟨b0, b1⟩
  have hbd : IntKind.i64.wrap (wd.tmod 3) = b.v := by rw [hb]; cases b <;> decide
  refine Chk.mk hc ?_
  refine Brn.mk (fun q => absurd q (by decide +kernel)) (fun _ => ?_)
  refine Chk.mk (by decide) ?_
  obtain ⟨n, hn⟩ : ∃ n, n = wr (wr (IntKind.i64.wrap bf + l) + 8) := ⟨_, rfl⟩
  have hn2 : n = bf + l + 8 := by rw [hn, hbf, show wr (bf + l) = bf + l from wr_id (by omega) (by omega)]; exact wr_id (by omega) (by omega)
  refine LoopOK.mk ⟨{ s : WS // s.ok b l bf.toNat }, fun s => wst4 e l a bf n b s.1 (s.1.k - bf.toNat), fun s => 300 - s.1.k, ⟨⟨⟨0, 0, 0, wr (l + 1), wr (l + 1), false, false, false, 0, 0, false, false, false⟩, by show 0 ≤ 300; decide, fun _ => by show min ((0 - bf.toNat : Nat) : Int) (l + 1) ≤ 0; omega, fun _ => by show min ((0 - bf.toNat : Nat) : Int) (l + 1) ≤ 0; omega⟩, ?_⟩, ?_⟩
  · refine wk_of [(3, some 3), (7, some 7), (9, some 9), (11, some 11)] rfl ⟨⟨rfl, rfl⟩, rfl, rfl, rfl, renI hbd, rfl, renI (by show (0 : Int) = ((0 - bf.toNat : Nat) : Int); omega), renI hn.symm, ⟨rfl, rfl⟩, trivial⟩ ⟨RowLe.fin rfl rfl rfl rfl rfl ?_, RowLe.fin rfl rfl rfl rfl rfl ?_, RowLe.fin rfl rfl rfl rfl rfl ?_, RowLe.fin rfl rfl rfl rfl rfl ?_, trivial⟩
    all_goals (repeat' first | exact trivial | exact ⟨by kernel_rfl, by kernel_rfl⟩ | exact Or.inr (by kernel_rfl) | (show _ = _; kernel_rfl) | refine ⟨?_, ?_⟩)
  rintro ⟨⟨k, t, p, f0, f1, d0, d1, h, g0, g1, o, c0, c1⟩, hk, ha, hb'⟩
  have hk : k ≤ 300 := hk
  have ha : b ≠ .k0 → min ((k - bf.toNat : Nat) : Int) (l + 1) ≤ g0 := ha
  have hb' : b ≠ .k1 → min ((k - bf.toNat : Nat) : Int) (l + 1) ≤ g1 := hb'
  refine Brn.mk (fun h1 => ?_) (fun _ => AVle.bit rfl)
  have h1 : (k : Int) < n := of_decide_eq_true h1
  refine Chk.mk hc ?_
  refine Brn.mk (fun q => absurd q (by decide +kernel)) (fun _ => ?_)
  have eA : IntKind.i64.wrap bf ≤ (k : Int) ↔ bf.toNat ≤ k := by rw [hbf]; omega
  cases b with
  | k0 =>
    refine Brn.mk (fun _ => ?_) (fun q => absurd q (by decide +kernel))
    refine Chk.mk (by decide) ?_
    refine Chk.mk hc ?_
    refine Brn.mk (fun q => absurd q (by decide +kernel)) (fun _ => ?_)
    generalize hso : (decide (l < stgF l g0 true) || decide (l < stgF l g1 ((OI.mk e l a t p f0 f1 h (decide (IntKind.i64.wrap bf ≤ (k : Int))) (decide (IntKind.i64.wrap bf ≤ (k : Int))) c0 c1).d 1))) = so
    refine Brn.mk (fun q => ?_) (fun q => ?_)
    · have q : (decide (IntKind.i64.wrap bf ≤ (k : Int))) = true := q
      have dd : ∀ i, (OI.mk e l a t p f0 f1 h (decide (IntKind.i64.wrap bf ≤ (k : Int))) (decide (IntKind.i64.wrap bf ≤ (k : Int))) c0 c1).d i = false := fun i => OI.d_off q i
      have hq : bf.toNat ≤ k := eA.1 (of_decide_eq_true q)
      have nx : ∀ i, (k + 1 - bf.toNat = 0 ∨ (k + 1 - bf.toNat = k - bf.toNat + 1 ∧ (OI.mk e l a t p f0 f1 h (decide (IntKind.i64.wrap bf ≤ (k : Int))) (decide (IntKind.i64.wrap bf ≤ (k : Int))) c0 c1).d i = false)) := fun i => .inr ⟨by omega, dd i⟩
      have eM : wr (((k - bf.toNat : Nat) : Int) + 1) = ((k + 1 - bf.toNat : Nat) : Int) := by rw [wr_id (by omega) (by omega)]; omega
      refine Brn.mk (fun q2 => absurd (show (!(((OI.mk e l a t p f0 f1 h (decide (IntKind.i64.wrap bf ≤ (k : Int))) (decide (IntKind.i64.wrap bf ≤ (k : Int))) c0 c1).d 0 == false) && (((OI.mk e l a t p f0 f1 h (decide (IntKind.i64.wrap bf ≤ (k : Int))) (decide (IntKind.i64.wrap bf ≤ (k : Int))) c0 c1).d 1 == false) && true))) = true from q2) (by rw [dd, dd]; decide)) (fun _ => ?_)
      refine Brn.mk (fun _ => ?_) (fun q2 => absurd (show (decide (IntKind.i64.wrap bf ≤ (k : Int))) = false from q2) (by rw [q]; decide))
      refine Brn.mk (fun q3 => ?_) (fun q3 => ?_)
      · have q3 : wr (l + 1) < wr (((k - bf.toNat : Nat) : Int) + 1) := of_decide_eq_true q3
        have q4 : l + 1 < ((k - bf.toNat : Nat) : Int) + 1 := by rw [wr_id (by omega) (by omega), wr_id (by omega) (by omega)] at q3; exact q3
        have es : so = true := by
          rw [← hso, Bool.or_eq_true]
          have := so_yes (g := g1) ⟨hl0, hl1⟩ (hb' (fun h => by cases h)) q4
          exact Or.inr (by rw [dd 1]; exact this)
        subst es
        refine Brn.mk (fun q => absurd (show (!true) = true from q) (by decide)) (fun _ => ?_)
        refine Chk.mk ⟨⟨rfl, rfl, rfl, rfl, rfl, rfl⟩, rfl, rfl, rfl, rfl, rfl, rfl⟩ ?_
        refine Chk.mk (by kernel_rfl) ?_
        refine Brn.mk (fun q => absurd q (by decide +kernel)) (fun _ => ?_)
        refine Brn.mk (fun _ => ?_) (fun q => absurd (show true = false from q) (by decide))
        refine Chk.mk ⟨rfl, rfl, rfl, rfl, rfl, rfl⟩ ?_
        refine Brn.mk (fun q => absurd (show false = true from q) (by decide)) (fun _ => ?_)
        refine Chk.mk (by kernel_rfl) ?_
        refine ⟨⟨⟨k + 1, (OI.mk e l a t p f0 f1 h (decide (IntKind.i64.wrap bf ≤ (k : Int))) (decide (IntKind.i64.wrap bf ≤ (k : Int))) c0 c1).t2, (OI.mk e l a t p f0 f1 h (decide (IntKind.i64.wrap bf ≤ (k : Int))) (decide (IntKind.i64.wrap bf ≤ (k : Int))) c0 c1).ap, (OI.mk e l a t p f0 f1 h (decide (IntKind.i64.wrap bf ≤ (k : Int))) (decide (IntKind.i64.wrap bf ≤ (k : Int))) c0 c1).g 0 f0, (OI.mk e l a t p f0 f1 h (decide (IntKind.i64.wrap bf ≤ (k : Int))) (decide (IntKind.i64.wrap bf ≤ (k : Int))) c0 c1).g 1 f1, (OI.mk e l a t p f0 f1 h (decide (IntKind.i64.wrap bf ≤ (k : Int))) (decide (IntKind.i64.wrap bf ≤ (k : Int))) c0 c1).d 0, (OI.mk e l a t p f0 f1 h (decide (IntKind.i64.wrap bf ≤ (k : Int))) (decide (IntKind.i64.wrap bf ≤ (k : Int))) c0 c1).d 1, (OI.mk e l a t p f0 f1 h (decide (IntKind.i64.wrap bf ≤ (k : Int))) (decide (IntKind.i64.wrap bf ≤ (k : Int))) c0 c1).l3, stgF l g0 true, stgF l g1 ((OI.mk e l a t p f0 f1 h (decide (IntKind.i64.wrap bf ≤ (k : Int))) (decide (IntKind.i64.wrap bf ≤ (k : Int))) c0 c1).d 1), true, true, ((OI.mk e l a t p f0 f1 h (decide (IntKind.i64.wrap bf ≤ (k : Int))) (decide (IntKind.i64.wrap bf ≤ (k : Int))) c0 c1).d 1)⟩, ⟨by show k + 1 ≤ 300; omega, fun q => absurd rfl q, fun _ => stg_next ⟨hl0, hl1⟩ (hb' (fun h => by cases h)) (nx 1)⟩⟩, by show 300 - (k + 1) < 300 - k; omega, ?_⟩
        refine wk_of [(3, some 3), (7, some 7), (9, some 9), (11, some 11)] rfl ⟨⟨rfl, rfl⟩, rfl, rfl, rfl, ⟨rfl, rfl⟩, rfl, renI eM, ⟨rfl, rfl⟩, ⟨wrS (i := k) (by omega), rfl⟩, trivial⟩ ⟨RowLe.fin rfl rfl rfl rfl rfl ?_, RowLe.fin rfl rfl rfl rfl rfl ?_, RowLe.fin rfl rfl rfl rfl rfl ?_, RowLe.fin rfl rfl rfl rfl rfl ?_, trivial⟩
        all_goals (repeat' first | exact trivial | exact ⟨by kernel_rfl, by kernel_rfl⟩ | exact Or.inr (by kernel_rfl) | (show _ = _; kernel_rfl) | refine ⟨?_, ?_⟩)
      · have q3 : ¬ wr (l + 1) < wr (((k - bf.toNat : Nat) : Int) + 1) := of_decide_eq_false q3
        cases so with
        | true =>
          refine Chk.mk ⟨⟨rfl, rfl, rfl, rfl, rfl, rfl⟩, rfl, rfl, rfl, rfl, rfl, rfl⟩ ?_
          refine Chk.mk (by kernel_rfl) ?_
          refine Brn.mk (fun q => absurd q (by decide +kernel)) (fun _ => ?_)
          refine Brn.mk (fun _ => ?_) (fun q => absurd (show true = false from q) (by decide))
          refine Chk.mk ⟨rfl, rfl, rfl, rfl, rfl, rfl⟩ ?_
          refine Brn.mk (fun q => absurd (show false = true from q) (by decide)) (fun _ => ?_)
          refine Chk.mk (by kernel_rfl) ?_
          refine ⟨⟨⟨k + 1, (OI.mk e l a t p f0 f1 h (decide (IntKind.i64.wrap bf ≤ (k : Int))) (decide (IntKind.i64.wrap bf ≤ (k : Int))) c0 c1).t2, (OI.mk e l a t p f0 f1 h (decide (IntKind.i64.wrap bf ≤ (k : Int))) (decide (IntKind.i64.wrap bf ≤ (k : Int))) c0 c1).ap, (OI.mk e l a t p f0 f1 h (decide (IntKind.i64.wrap bf ≤ (k : Int))) (decide (IntKind.i64.wrap bf ≤ (k : Int))) c0 c1).g 0 f0, (OI.mk e l a t p f0 f1 h (decide (IntKind.i64.wrap bf ≤ (k : Int))) (decide (IntKind.i64.wrap bf ≤ (k : Int))) c0 c1).g 1 f1, (OI.mk e l a t p f0 f1 h (decide (IntKind.i64.wrap bf ≤ (k : Int))) (decide (IntKind.i64.wrap bf ≤ (k : Int))) c0 c1).d 0, (OI.mk e l a t p f0 f1 h (decide (IntKind.i64.wrap bf ≤ (k : Int))) (decide (IntKind.i64.wrap bf ≤ (k : Int))) c0 c1).d 1, (OI.mk e l a t p f0 f1 h (decide (IntKind.i64.wrap bf ≤ (k : Int))) (decide (IntKind.i64.wrap bf ≤ (k : Int))) c0 c1).l3, stgF l g0 true, stgF l g1 ((OI.mk e l a t p f0 f1 h (decide (IntKind.i64.wrap bf ≤ (k : Int))) (decide (IntKind.i64.wrap bf ≤ (k : Int))) c0 c1).d 1), true, true, ((OI.mk e l a t p f0 f1 h (decide (IntKind.i64.wrap bf ≤ (k : Int))) (decide (IntKind.i64.wrap bf ≤ (k : Int))) c0 c1).d 1)⟩, ⟨by show k + 1 ≤ 300; omega, fun q => absurd rfl q, fun _ => stg_next ⟨hl0, hl1⟩ (hb' (fun h => by cases h)) (nx 1)⟩⟩, by show 300 - (k + 1) < 300 - k; omega, ?_⟩
          refine wk_of [(3, some 3), (7, some 7), (9, some 9), (11, some 11)] rfl ⟨⟨rfl, rfl⟩, rfl, rfl, rfl, ⟨rfl, rfl⟩, rfl, renI eM, ⟨rfl, rfl⟩, ⟨wrS (i := k) (by omega), rfl⟩, trivial⟩ ⟨RowLe.fin rfl rfl rfl rfl rfl ?_, RowLe.fin rfl rfl rfl rfl rfl ?_, RowLe.fin rfl rfl rfl rfl rfl ?_, RowLe.fin rfl rfl rfl rfl rfl ?_, trivial⟩
          all_goals (repeat' first | exact trivial | exact ⟨by kernel_rfl, by kernel_rfl⟩ | exact Or.inr (by kernel_rfl) | (show _ = _; kernel_rfl) | refine ⟨?_, ?_⟩)
        | false =>
          refine Chk.mk ⟨⟨rfl, rfl, rfl, rfl, rfl, rfl⟩, rfl, rfl, rfl, rfl, rfl, rfl⟩ ?_
          refine Chk.mk (by kernel_rfl) ?_
          refine Brn.mk (fun q => absurd q (by decide +kernel)) (fun _ => ?_)
          refine Brn.mk (fun q => absurd (show false = true from q) (by decide)) (fun _ => ?_)
          refine Chk.mk (by kernel_rfl) ?_
          refine ⟨⟨⟨k + 1, (OI.mk e l a t p f0 f1 h (decide (IntKind.i64.wrap bf ≤ (k : Int))) (decide (IntKind.i64.wrap bf ≤ (k : Int))) c0 c1).t2, (OI.mk e l a t p f0 f1 h (decide (IntKind.i64.wrap bf ≤ (k : Int))) (decide (IntKind.i64.wrap bf ≤ (k : Int))) c0 c1).ap, (OI.mk e l a t p f0 f1 h (decide (IntKind.i64.wrap bf ≤ (k : Int))) (decide (IntKind.i64.wrap bf ≤ (k : Int))) c0 c1).g 0 f0, (OI.mk e l a t p f0 f1 h (decide (IntKind.i64.wrap bf ≤ (k : Int))) (decide (IntKind.i64.wrap bf ≤ (k : Int))) c0 c1).g 1 f1, (OI.mk e l a t p f0 f1 h (decide (IntKind.i64.wrap bf ≤ (k : Int))) (decide (IntKind.i64.wrap bf ≤ (k : Int))) c0 c1).d 0, (OI.mk e l a t p f0 f1 h (decide (IntKind.i64.wrap bf ≤ (k : Int))) (decide (IntKind.i64.wrap bf ≤ (k : Int))) c0 c1).d 1, (OI.mk e l a t p f0 f1 h (decide (IntKind.i64.wrap bf ≤ (k : Int))) (decide (IntKind.i64.wrap bf ≤ (k : Int))) c0 c1).l3, stgF l g0 true, stgF l g1 ((OI.mk e l a t p f0 f1 h (decide (IntKind.i64.wrap bf ≤ (k : Int))) (decide (IntKind.i64.wrap bf ≤ (k : Int))) c0 c1).d 1), false, true, ((OI.mk e l a t p f0 f1 h (decide (IntKind.i64.wrap bf ≤ (k : Int))) (decide (IntKind.i64.wrap bf ≤ (k : Int))) c0 c1).d 1)⟩, ⟨by show k + 1 ≤ 300; omega, fun q => absurd rfl q, fun _ => stg_next ⟨hl0, hl1⟩ (hb' (fun h => by cases h)) (nx 1)⟩⟩, by show 300 - (k + 1) < 300 - k; omega, ?_⟩
          refine wk_of [(3, some 3), (7, some 7), (9, some 9), (11, some 11)] rfl ⟨⟨rfl, rfl⟩, rfl, rfl, rfl, ⟨rfl, rfl⟩, rfl, renI eM, ⟨rfl, rfl⟩, ⟨wrS (i := k) (by omega), rfl⟩, trivial⟩ ⟨RowLe.fin rfl rfl rfl rfl rfl ?_, RowLe.fin rfl rfl rfl rfl rfl ?_, RowLe.fin rfl rfl rfl rfl rfl ?_, RowLe.fin rfl rfl rfl rfl rfl ?_, trivial⟩
          all_goals (repeat' first | exact trivial | exact ⟨by kernel_rfl, by kernel_rfl⟩ | exact Or.inr (by kernel_rfl) | (show _ = _; kernel_rfl) | refine ⟨?_, ?_⟩)
    · have q : (decide (IntKind.i64.wrap bf ≤ (k : Int))) = false := q
      have hq : ¬ bf.toNat ≤ k := fun h => of_decide_eq_false q (eA.2 h)
      have nx : ∀ i, (k + 1 - bf.toNat = 0 ∨ (k + 1 - bf.toNat = k - bf.toNat + 1 ∧ (OI.mk e l a t p f0 f1 h (decide (IntKind.i64.wrap bf ≤ (k : Int))) (decide (IntKind.i64.wrap bf ≤ (k : Int))) c0 c1).d i = false)) := fun i => .inl (by omega)
      have eM : ((k - bf.toNat : Nat) : Int) = ((k + 1 - bf.toNat : Nat) : Int) := by omega
      refine Brn.mk (fun q2 => absurd (show (decide (IntKind.i64.wrap bf ≤ (k : Int))) = true from q2) (by rw [q]; decide)) (fun _ => ?_)
      cases so with
      | true =>
        refine Chk.mk ⟨⟨rfl, rfl, rfl, rfl, rfl, rfl⟩, rfl, rfl, rfl, rfl, rfl, rfl⟩ ?_
        refine Chk.mk (by kernel_rfl) ?_
        refine Brn.mk (fun q => absurd q (by decide +kernel)) (fun _ => ?_)
        refine Brn.mk (fun _ => ?_) (fun q => absurd (show true = false from q) (by decide))
        refine Chk.mk ⟨rfl, rfl, rfl, rfl, rfl, rfl⟩ ?_
        refine Brn.mk (fun q => absurd (show false = true from q) (by decide)) (fun _ => ?_)
        refine Chk.mk (by kernel_rfl) ?_
        refine ⟨⟨⟨k + 1, (OI.mk e l a t p f0 f1 h (decide (IntKind.i64.wrap bf ≤ (k : Int))) (decide (IntKind.i64.wrap bf ≤ (k : Int))) c0 c1).t2, (OI.mk e l a t p f0 f1 h (decide (IntKind.i64.wrap bf ≤ (k : Int))) (decide (IntKind.i64.wrap bf ≤ (k : Int))) c0 c1).ap, (OI.mk e l a t p f0 f1 h (decide (IntKind.i64.wrap bf ≤ (k : Int))) (decide (IntKind.i64.wrap bf ≤ (k : Int))) c0 c1).g 0 f0, (OI.mk e l a t p f0 f1 h (decide (IntKind.i64.wrap bf ≤ (k : Int))) (decide (IntKind.i64.wrap bf ≤ (k : Int))) c0 c1).g 1 f1, (OI.mk e l a t p f0 f1 h (decide (IntKind.i64.wrap bf ≤ (k : Int))) (decide (IntKind.i64.wrap bf ≤ (k : Int))) c0 c1).d 0, (OI.mk e l a t p f0 f1 h (decide (IntKind.i64.wrap bf ≤ (k : Int))) (decide (IntKind.i64.wrap bf ≤ (k : Int))) c0 c1).d 1, (OI.mk e l a t p f0 f1 h (decide (IntKind.i64.wrap bf ≤ (k : Int))) (decide (IntKind.i64.wrap bf ≤ (k : Int))) c0 c1).l3, stgF l g0 true, stgF l g1 ((OI.mk e l a t p f0 f1 h (decide (IntKind.i64.wrap bf ≤ (k : Int))) (decide (IntKind.i64.wrap bf ≤ (k : Int))) c0 c1).d 1), true, true, ((OI.mk e l a t p f0 f1 h (decide (IntKind.i64.wrap bf ≤ (k : Int))) (decide (IntKind.i64.wrap bf ≤ (k : Int))) c0 c1).d 1)⟩, ⟨by show k + 1 ≤ 300; omega, fun q => absurd rfl q, fun _ => stg_next ⟨hl0, hl1⟩ (hb' (fun h => by cases h)) (nx 1)⟩⟩, by show 300 - (k + 1) < 300 - k; omega, ?_⟩
        refine wk_of [(3, some 3), (7, some 7), (9, some 9), (11, some 11)] rfl ⟨⟨rfl, rfl⟩, rfl, rfl, rfl, ⟨rfl, rfl⟩, rfl, renI eM, ⟨rfl, rfl⟩, ⟨wrS (i := k) (by omega), rfl⟩, trivial⟩ ⟨RowLe.fin rfl rfl rfl rfl rfl ?_, RowLe.fin rfl rfl rfl rfl rfl ?_, RowLe.fin rfl rfl rfl rfl rfl ?_, RowLe.fin rfl rfl rfl rfl rfl ?_, trivial⟩
        all_goals (repeat' first | exact trivial | exact ⟨by kernel_rfl, by kernel_rfl⟩ | exact Or.inr (by kernel_rfl) | (show _ = _; kernel_rfl) | refine ⟨?_, ?_⟩)
      | false =>
        refine Chk.mk ⟨⟨rfl, rfl, rfl, rfl, rfl, rfl⟩, rfl, rfl, rfl, rfl, rfl, rfl⟩ ?_
        refine Chk.mk (by kernel_rfl) ?_
        refine Brn.mk (fun q => absurd q (by decide +kernel)) (fun _ => ?_)
        refine Brn.mk (fun q => absurd (show false = true from q) (by decide)) (fun _ => ?_)
        refine Chk.mk (by kernel_rfl) ?_
        refine ⟨⟨⟨k + 1, (OI.mk e l a t p f0 f1 h (decide (IntKind.i64.wrap bf ≤ (k : Int))) (decide (IntKind.i64.wrap bf ≤ (k : Int))) c0 c1).t2, (OI.mk e l a t p f0 f1 h (decide (IntKind.i64.wrap bf ≤ (k : Int))) (decide (IntKind.i64.wrap bf ≤ (k : Int))) c0 c1).ap, (OI.mk e l a t p f0 f1 h (decide (IntKind.i64.wrap bf ≤ (k : Int))) (decide (IntKind.i64.wrap bf ≤ (k : Int))) c0 c1).g 0 f0, (OI.mk e l a t p f0 f1 h (decide (IntKind.i64.wrap bf ≤ (k : Int))) (decide (IntKind.i64.wrap bf ≤ (k : Int))) c0 c1).g 1 f1, (OI.mk e l a t p f0 f1 h (decide (IntKind.i64.wrap bf ≤ (k : Int))) (decide (IntKind.i64.wrap bf ≤ (k : Int))) c0 c1).d 0, (OI.mk e l a t p f0 f1 h (decide (IntKind.i64.wrap bf ≤ (k : Int))) (decide (IntKind.i64.wrap bf ≤ (k : Int))) c0 c1).d 1, (OI.mk e l a t p f0 f1 h (decide (IntKind.i64.wrap bf ≤ (k : Int))) (decide (IntKind.i64.wrap bf ≤ (k : Int))) c0 c1).l3, stgF l g0 true, stgF l g1 ((OI.mk e l a t p f0 f1 h (decide (IntKind.i64.wrap bf ≤ (k : Int))) (decide (IntKind.i64.wrap bf ≤ (k : Int))) c0 c1).d 1), false, true, ((OI.mk e l a t p f0 f1 h (decide (IntKind.i64.wrap bf ≤ (k : Int))) (decide (IntKind.i64.wrap bf ≤ (k : Int))) c0 c1).d 1)⟩, ⟨by show k + 1 ≤ 300; omega, fun q => absurd rfl q, fun _ => stg_next ⟨hl0, hl1⟩ (hb' (fun h => by cases h)) (nx 1)⟩⟩, by show 300 - (k + 1) < 300 - k; omega, ?_⟩
        refine wk_of [(3, some 3), (7, some 7), (9, some 9), (11, some 11)] rfl ⟨⟨rfl, rfl⟩, rfl, rfl, rfl, ⟨rfl, rfl⟩, rfl, renI eM, ⟨rfl, rfl⟩, ⟨wrS (i := k) (by omega), rfl⟩, trivial⟩ ⟨RowLe.fin rfl rfl rfl rfl rfl ?_, RowLe.fin rfl rfl rfl rfl rfl ?_, RowLe.fin rfl rfl rfl rfl rfl ?_, RowLe.fin rfl rfl rfl rfl rfl ?_, trivial⟩
        all_goals (repeat' first | exact trivial | exact ⟨by kernel_rfl, by kernel_rfl⟩ | exact Or.inr (by kernel_rfl) | (show _ = _; kernel_rfl) | refine ⟨?_, ?_⟩)
  | k1 =>
    refine Brn.mk (fun _ => ?_) (fun q => absurd q (by decide +kernel))
    refine Chk.mk (by decide) ?_
    refine Chk.mk hc ?_
    refine Brn.mk (fun q => absurd q (by decide +kernel)) (fun _ => ?_)
    generalize hso : (decide (l < stgF l g0 ((OI.mk e l a t p f0 f1 h (decide (IntKind.i64.wrap bf ≤ (k : Int))) (decide (IntKind.i64.wrap bf ≤ (k : Int))) c0 c1).d 0)) || decide (l < stgF l g1 true)) = so
    refine Brn.mk (fun q => ?_) (fun q => ?_)
    · have q : (decide (IntKind.i64.wrap bf ≤ (k : Int))) = true := q
      have dd : ∀ i, (OI.mk e l a t p f0 f1 h (decide (IntKind.i64.wrap bf ≤ (k : Int))) (decide (IntKind.i64.wrap bf ≤ (k : Int))) c0 c1).d i = false := fun i => OI.d_off q i
      have hq : bf.toNat ≤ k := eA.1 (of_decide_eq_true q)
      have nx : ∀ i, (k + 1 - bf.toNat = 0 ∨ (k + 1 - bf.toNat = k - bf.toNat + 1 ∧ (OI.mk e l a t p f0 f1 h (decide (IntKind.i64.wrap bf ≤ (k : Int))) (decide (IntKind.i64.wrap bf ≤ (k : Int))) c0 c1).d i = false)) := fun i => .inr ⟨by omega, dd i⟩
      have eM : wr (((k - bf.toNat : Nat) : Int) + 1) = ((k + 1 - bf.toNat : Nat) : Int) := by rw [wr_id (by omega) (by omega)]; omega
      refine Brn.mk (fun q2 => absurd (show (!(((OI.mk e l a t p f0 f1 h (decide (IntKind.i64.wrap bf ≤ (k : Int))) (decide (IntKind.i64.wrap bf ≤ (k : Int))) c0 c1).d 0 == false) && (((OI.mk e l a t p f0 f1 h (decide (IntKind.i64.wrap bf ≤ (k : Int))) (decide (IntKind.i64.wrap bf ≤ (k : Int))) c0 c1).d 1 == false) && true))) = true from q2) (by rw [dd, dd]; decide)) (fun _ => ?_)
      refine Brn.mk (fun _ => ?_) (fun q2 => absurd (show (decide (IntKind.i64.wrap bf ≤ (k : Int))) = false from q2) (by rw [q]; decide))
      refine Brn.mk (fun q3 => ?_) (fun q3 => ?_)
      · have q3 : wr (l + 1) < wr (((k - bf.toNat : Nat) : Int) + 1) := of_decide_eq_true q3
        have q4 : l + 1 < ((k - bf.toNat : Nat) : Int) + 1 := by rw [wr_id (by omega) (by omega), wr_id (by omega) (by omega)] at q3; exact q3
        have es : so = true := by
          rw [← hso, Bool.or_eq_true]
          have := so_yes (g := g0) ⟨hl0, hl1⟩ (ha (fun h => by cases h)) q4
          exact Or.inl (by rw [dd 0]; exact this)
        subst es
        refine Brn.mk (fun q => absurd (show (!true) = true from q) (by decide)) (fun _ => ?_)
        refine Chk.mk ⟨⟨rfl, rfl, rfl, rfl, rfl, rfl⟩, rfl, rfl, rfl, rfl, rfl, rfl⟩ ?_
        refine Chk.mk (by kernel_rfl) ?_
        refine Brn.mk (fun q => absurd q (by decide +kernel)) (fun _ => ?_)
        refine Brn.mk (fun _ => ?_) (fun q => absurd (show true = false from q) (by decide))
        refine Chk.mk ⟨rfl, rfl, rfl, rfl, rfl, rfl⟩ ?_
        refine Brn.mk (fun q => absurd (show false = true from q) (by decide)) (fun _ => ?_)
        refine Chk.mk (by kernel_rfl) ?_
        refine ⟨⟨⟨k + 1, (OI.mk e l a t p f0 f1 h (decide (IntKind.i64.wrap bf ≤ (k : Int))) (decide (IntKind.i64.wrap bf ≤ (k : Int))) c0 c1).t2, (OI.mk e l a t p f0 f1 h (decide (IntKind.i64.wrap bf ≤ (k : Int))) (decide (IntKind.i64.wrap bf ≤ (k : Int))) c0 c1).ap, (OI.mk e l a t p f0 f1 h (decide (IntKind.i64.wrap bf ≤ (k : Int))) (decide (IntKind.i64.wrap bf ≤ (k : Int))) c0 c1).g 0 f0, (OI.mk e l a t p f0 f1 h (decide (IntKind.i64.wrap bf ≤ (k : Int))) (decide (IntKind.i64.wrap bf ≤ (k : Int))) c0 c1).g 1 f1, (OI.mk e l a t p f0 f1 h (decide (IntKind.i64.wrap bf ≤ (k : Int))) (decide (IntKind.i64.wrap bf ≤ (k : Int))) c0 c1).d 0, (OI.mk e l a t p f0 f1 h (decide (IntKind.i64.wrap bf ≤ (k : Int))) (decide (IntKind.i64.wrap bf ≤ (k : Int))) c0 c1).d 1, (OI.mk e l a t p f0 f1 h (decide (IntKind.i64.wrap bf ≤ (k : Int))) (decide (IntKind.i64.wrap bf ≤ (k : Int))) c0 c1).l3, stgF l g0 ((OI.mk e l a t p f0 f1 h (decide (IntKind.i64.wrap bf ≤ (k : Int))) (decide (IntKind.i64.wrap bf ≤ (k : Int))) c0 c1).d 0), stgF l g1 true, true, ((OI.mk e l a t p f0 f1 h (decide (IntKind.i64.wrap bf ≤ (k : Int))) (decide (IntKind.i64.wrap bf ≤ (k : Int))) c0 c1).d 0), true⟩, ⟨by show k + 1 ≤ 300; omega, fun _ => stg_next ⟨hl0, hl1⟩ (ha (fun h => by cases h)) (nx 0), fun q => absurd rfl q⟩⟩, by show 300 - (k + 1) < 300 - k; omega, ?_⟩
        refine wk_of [(3, some 3), (7, some 7), (9, some 9), (11, some 11)] rfl ⟨⟨rfl, rfl⟩, rfl, rfl, rfl, ⟨rfl, rfl⟩, rfl, renI eM, ⟨rfl, rfl⟩, ⟨wrS (i := k) (by omega), rfl⟩, trivial⟩ ⟨RowLe.fin rfl rfl rfl rfl rfl ?_, RowLe.fin rfl rfl rfl rfl rfl ?_, RowLe.fin rfl rfl rfl rfl rfl ?_, RowLe.fin rfl rfl rfl rfl rfl ?_, trivial⟩
        all_goals (repeat' first | exact trivial | exact ⟨by kernel_rfl, by kernel_rfl⟩ | exact Or.inr (by kernel_rfl) | (show _ = _; kernel_rfl) | refine ⟨?_, ?_⟩)
      · have q3 : ¬ wr (l + 1) < wr (((k - bf.toNat : Nat) : Int) + 1) := of_decide_eq_false q3
        cases so with
        | true =>
          refine Chk.mk ⟨⟨rfl, rfl, rfl, rfl, rfl, rfl⟩, rfl, rfl, rfl, rfl, rfl, rfl⟩ ?_
          refine Chk.mk (by kernel_rfl) ?_
          refine Brn.mk (fun q => absurd q (by decide +kernel)) (fun _ => ?_)
          refine Brn.mk (fun _ => ?_) (fun q => absurd (show true = false from q) (by decide))
          refine Chk.mk ⟨rfl, rfl, rfl, rfl, rfl, rfl⟩ ?_
          refine Brn.mk (fun q => absurd (show false = true from q) (by decide)) (fun _ => ?_)
          refine Chk.mk (by kernel_rfl) ?_
          refine ⟨⟨⟨k + 1, (OI.mk e l a t p f0 f1 h (decide (IntKind.i64.wrap bf ≤ (k : Int))) (decide (IntKind.i64.wrap bf ≤ (k : Int))) c0 c1).t2, (OI.mk e l a t p f0 f1 h (decide (IntKind.i64.wrap bf ≤ (k : Int))) (decide (IntKind.i64.wrap bf ≤ (k : Int))) c0 c1).ap, (OI.mk e l a t p f0 f1 h (decide (IntKind.i64.wrap bf ≤ (k : Int))) (decide (IntKind.i64.wrap bf ≤ (k : Int))) c0 c1).g 0 f0, (OI.mk e l a t p f0 f1 h (decide (IntKind.i64.wrap bf ≤ (k : Int))) (decide (IntKind.i64.wrap bf ≤ (k : Int))) c0 c1).g 1 f1, (OI.mk e l a t p f0 f1 h (decide (IntKind.i64.wrap bf ≤ (k : Int))) (decide (IntKind.i64.wrap bf ≤ (k : Int))) c0 c1).d 0, (OI.mk e l a t p f0 f1 h (decide (IntKind.i64.wrap bf ≤ (k : Int))) (decide (IntKind.i64.wrap bf ≤ (k : Int))) c0 c1).d 1, (OI.mk e l a t p f0 f1 h (decide (IntKind.i64.wrap bf ≤ (k : Int))) (decide (IntKind.i64.wrap bf ≤ (k : Int))) c0 c1).l3, stgF l g0 ((OI.mk e l a t p f0 f1 h (decide (IntKind.i64.wrap bf ≤ (k : Int))) (decide (IntKind.i64.wrap bf ≤ (k : Int))) c0 c1).d 0), stgF l g1 true, true, ((OI.mk e l a t p f0 f1 h (decide (IntKind.i64.wrap bf ≤ (k : Int))) (decide (IntKind.i64.wrap bf ≤ (k : Int))) c0 c1).d 0), true⟩, ⟨by show k + 1 ≤ 300; omega, fun _ => stg_next ⟨hl0, hl1⟩ (ha (fun h => by cases h)) (nx 0), fun q => absurd rfl q⟩⟩, by show 300 - (k + 1) < 300 - k; omega, ?_⟩
          refine wk_of [(3, some 3), (7, some 7), (9, some 9), (11, some 11)] rfl ⟨⟨rfl, rfl⟩, rfl, rfl, rfl, ⟨rfl, rfl⟩, rfl, renI eM, ⟨rfl, rfl⟩, ⟨wrS (i := k) (by omega), rfl⟩, trivial⟩ ⟨RowLe.fin rfl rfl rfl rfl rfl ?_, RowLe.fin rfl rfl rfl rfl rfl ?_, RowLe.fin rfl rfl rfl rfl rfl ?_, RowLe.fin rfl rfl rfl rfl rfl ?_, trivial⟩
          all_goals (repeat' first | exact trivial | exact ⟨by kernel_rfl, by kernel_rfl⟩ | exact Or.inr (by kernel_rfl) | (show _ = _; kernel_rfl) | refine ⟨?_, ?_⟩)
        | false =>
          refine Chk.mk ⟨⟨rfl, rfl, rfl, rfl, rfl, rfl⟩, rfl, rfl, rfl, rfl, rfl, rfl⟩ ?_
          refine Chk.mk (by kernel_rfl) ?_
          refine Brn.mk (fun q => absurd q (by decide +kernel)) (fun _ => ?_)
          refine Brn.mk (fun q => absurd (show false = true from q) (by decide)) (fun _ => ?_)
          refine Chk.mk (by kernel_rfl) ?_
          refine ⟨⟨⟨k + 1, (OI.mk e l a t p f0 f1 h (decide (IntKind.i64.wrap bf ≤ (k : Int))) (decide (IntKind.i64.wrap bf ≤ (k : Int))) c0 c1).t2, (OI.mk e l a t p f0 f1 h (decide (IntKind.i64.wrap bf ≤ (k : Int))) (decide (IntKind.i64.wrap bf ≤ (k : Int))) c0 c1).ap, (OI.mk e l a t p f0 f1 h (decide (IntKind.i64.wrap bf ≤ (k : Int))) (decide (IntKind.i64.wrap bf ≤ (k : Int))) c0 c1).g 0 f0, (OI.mk e l a t p f0 f1 h (decide (IntKind.i64.wrap bf ≤ (k : Int))) (decide (IntKind.i64.wrap bf ≤ (k : Int))) c0 c1).g 1 f1, (OI.mk e l a t p f0 f1 h (decide (IntKind.i64.wrap bf ≤ (k : Int))) (decide (IntKind.i64.wrap bf ≤ (k : Int))) c0 c1).d 0, (OI.mk e l a t p f0 f1 h (decide (IntKind.i64.wrap bf ≤ (k : Int))) (decide (IntKind.i64.wrap bf ≤ (k : Int))) c0 c1).d 1, (OI.mk e l a t p f0 f1 h (decide (IntKind.i64.wrap bf ≤ (k : Int))) (decide (IntKind.i64.wrap bf ≤ (k : Int))) c0 c1).l3, stgF l g0 ((OI.mk e l a t p f0 f1 h (decide (IntKind.i64.wrap bf ≤ (k : Int))) (decide (IntKind.i64.wrap bf ≤ (k : Int))) c0 c1).d 0), stgF l g1 true, false, ((OI.mk e l a t p f0 f1 h (decide (IntKind.i64.wrap bf ≤ (k : Int))) (decide (IntKind.i64.wrap bf ≤ (k : Int))) c0 c1).d 0), true⟩, ⟨by show k + 1 ≤ 300; omega, fun _ => stg_next ⟨hl0, hl1⟩ (ha (fun h => by cases h)) (nx 0), fun q => absurd rfl q⟩⟩, by show 300 - (k + 1) < 300 - k; omega, ?_⟩
          refine wk_of [(3, some 3), (7, some 7), (9, some 9), (11, some 11)] rfl ⟨⟨rfl, rfl⟩, rfl, rfl, rfl, ⟨rfl, rfl⟩, rfl, renI eM, ⟨rfl, rfl⟩, ⟨wrS (i := k) (by omega), rfl⟩, trivial⟩ ⟨RowLe.fin rfl rfl rfl rfl rfl ?_, RowLe.fin rfl rfl rfl rfl rfl ?_, RowLe.fin rfl rfl rfl rfl rfl ?_, RowLe.fin rfl rfl rfl rfl rfl ?_, trivial⟩
          all_goals (repeat' first | exact trivial | exact ⟨by kernel_rfl, by kernel_rfl⟩ | exact Or.inr (by kernel_rfl) | (show _ = _; kernel_rfl) | refine ⟨?_, ?_⟩)
    · have q : (decide (IntKind.i64.wrap bf ≤ (k : Int))) = false := q
      have hq : ¬ bf.toNat ≤ k := fun h => of_decide_eq_false q (eA.2 h)
      have nx : ∀ i, (k + 1 - bf.toNat = 0 ∨ (k + 1 - bf.toNat = k - bf.toNat + 1 ∧ (OI.mk e l a t p f0 f1 h (decide (IntKind.i64.wrap bf ≤ (k : Int))) (decide (IntKind.i64.wrap bf ≤ (k : Int))) c0 c1).d i = false)) := fun i => .inl (by omega)
      have eM : ((k - bf.toNat : Nat) : Int) = ((k + 1 - bf.toNat : Nat) : Int) := by omega
      refine Brn.mk (fun q2 => absurd (show (decide (IntKind.i64.wrap bf ≤ (k : Int))) = true from q2) (by rw [q]; decide)) (fun _ => ?_)
      cases so with
      | true =>
        refine Chk.mk ⟨⟨rfl, rfl, rfl, rfl, rfl, rfl⟩, rfl, rfl, rfl, rfl, rfl, rfl⟩ ?_
        refine Chk.mk (by kernel_rfl) ?_
        refine Brn.mk (fun q => absurd q (by decide +kernel)) (fun _ => ?_)
        refine Brn.mk (fun _ => ?_) (fun q => absurd (show true = false from q) (by decide))
        refine Chk.mk ⟨rfl, rfl, rfl, rfl, rfl, rfl⟩ ?_
        refine Brn.mk (fun q => absurd (show false = true from q) (by decide)) (fun _ => ?_)
        refine Chk.mk (by kernel_rfl) ?_
        refine ⟨⟨⟨k + 1, (OI.mk e l a t p f0 f1 h (decide (IntKind.i64.wrap bf ≤ (k : Int))) (decide (IntKind.i64.wrap bf ≤ (k : Int))) c0 c1).t2, (OI.mk e l a t p f0 f1 h (decide (IntKind.i64.wrap bf ≤ (k : Int))) (decide (IntKind.i64.wrap bf ≤ (k : Int))) c0 c1).ap, (OI.mk e l a t p f0 f1 h (decide (IntKind.i64.wrap bf ≤ (k : Int))) (decide (IntKind.i64.wrap bf ≤ (k : Int))) c0 c1).g 0 f0, (OI.mk e l a t p f0 f1 h (decide (IntKind.i64.wrap bf ≤ (k : Int))) (decide (IntKind.i64.wrap bf ≤ (k : Int))) c0 c1).g 1 f1, (OI.mk e l a t p f0 f1 h (decide (IntKind.i64.wrap bf ≤ (k : Int))) (decide (IntKind.i64.wrap bf ≤ (k : Int))) c0 c1).d 0, (OI.mk e l a t p f0 f1 h (decide (IntKind.i64.wrap bf ≤ (k : Int))) (decide (IntKind.i64.wrap bf ≤ (k : Int))) c0 c1).d 1, (OI.mk e l a t p f0 f1 h (decide (IntKind.i64.wrap bf ≤ (k : Int))) (decide (IntKind.i64.wrap bf ≤ (k : Int))) c0 c1).l3, stgF l g0 ((OI.mk e l a t p f0 f1 h (decide (IntKind.i64.wrap bf ≤ (k : Int))) (decide (IntKind.i64.wrap bf ≤ (k : Int))) c0 c1).d 0), stgF l g1 true, true, ((OI.mk e l a t p f0 f1 h (decide (IntKind.i64.wrap bf ≤ (k : Int))) (decide (IntKind.i64.wrap bf ≤ (k : Int))) c0 c1).d 0), true⟩, ⟨by show k + 1 ≤ 300; omega, fun _ => stg_next ⟨hl0, hl1⟩ (ha (fun h => by cases h)) (nx 0), fun q => absurd rfl q⟩⟩, by show 300 - (k + 1) < 300 - k; omega, ?_⟩
        refine wk_of [(3, some 3), (7, some 7), (9, some 9), (11, some 11)] rfl ⟨⟨rfl, rfl⟩, rfl, rfl, rfl, ⟨rfl, rfl⟩, rfl, renI eM, ⟨rfl, rfl⟩, ⟨wrS (i := k) (by omega), rfl⟩, trivial⟩ ⟨RowLe.fin rfl rfl rfl rfl rfl ?_, RowLe.fin rfl rfl rfl rfl rfl ?_, RowLe.fin rfl rfl rfl rfl rfl ?_, RowLe.fin rfl rfl rfl rfl rfl ?_, trivial⟩
        all_goals (repeat' first | exact trivial | exact ⟨by kernel_rfl, by kernel_rfl⟩ | exact Or.inr (by kernel_rfl) | (show _ = _; kernel_rfl) | refine ⟨?_, ?_⟩)
      | false =>
        refine Chk.mk ⟨⟨rfl, rfl, rfl, rfl, rfl, rfl⟩, rfl, rfl, rfl, rfl, rfl, rfl⟩ ?_
        refine Chk.mk (by kernel_rfl) ?_
        refine Brn.mk (fun q => absurd q (by decide +kernel)) (fun _ => ?_)
        refine Brn.mk (fun q => absurd (show false = true from q) (by decide)) (fun _ => ?_)
        refine Chk.mk (by kernel_rfl) ?_
        refine ⟨⟨⟨k + 1, (OI.mk e l a t p f0 f1 h (decide (IntKind.i64.wrap bf ≤ (k : Int))) (decide (IntKind.i64.wrap bf ≤ (k : Int))) c0 c1).t2, (OI.mk e l a t p f0 f1 h (decide (IntKind.i64.wrap bf ≤ (k : Int))) (decide (IntKind.i64.wrap bf ≤ (k : Int))) c0 c1).ap, (OI.mk e l a t p f0 f1 h (decide (IntKind.i64.wrap bf ≤ (k : Int))) (decide (IntKind.i64.wrap bf ≤ (k : Int))) c0 c1).g 0 f0, (OI.mk e l a t p f0 f1 h (decide (IntKind.i64.wrap bf ≤ (k : Int))) (decide (IntKind.i64.wrap bf ≤ (k : Int))) c0 c1).g 1 f1, (OI.mk e l a t p f0 f1 h (decide (IntKind.i64.wrap bf ≤ (k : Int))) (decide (IntKind.i64.wrap bf ≤ (k : Int))) c0 c1).d 0, (OI.mk e l a t p f0 f1 h (decide (IntKind.i64.wrap bf ≤ (k : Int))) (decide (IntKind.i64.wrap bf ≤ (k : Int))) c0 c1).d 1, (OI.mk e l a t p f0 f1 h (decide (IntKind.i64.wrap bf ≤ (k : Int))) (decide (IntKind.i64.wrap bf ≤ (k : Int))) c0 c1).l3, stgF l g0 ((OI.mk e l a t p f0 f1 h (decide (IntKind.i64.wrap bf ≤ (k : Int))) (decide (IntKind.i64.wrap bf ≤ (k : Int))) c0 c1).d 0), stgF l g1 true, false, ((OI.mk e l a t p f0 f1 h (decide (IntKind.i64.wrap bf ≤ (k : Int))) (decide (IntKind.i64.wrap bf ≤ (k : Int))) c0 c1).d 0), true⟩, ⟨by show k + 1 ≤ 300; omega, fun _ => stg_next ⟨hl0, hl1⟩ (ha (fun h => by cases h)) (nx 0), fun q => absurd rfl q⟩⟩, by show 300 - (k + 1) < 300 - k; omega, ?_⟩
        refine wk_of [(3, some 3), (7, some 7), (9, some 9), (11, some 11)] rfl ⟨⟨rfl, rfl⟩, rfl, rfl, rfl, ⟨rfl, rfl⟩, rfl, renI eM, ⟨rfl, rfl⟩, ⟨wrS (i := k) (by omega), rfl⟩, trivial⟩ ⟨RowLe.fin rfl rfl rfl rfl rfl ?_, RowLe.fin rfl rfl rfl rfl rfl ?_, RowLe.fin rfl rfl rfl rfl rfl ?_, RowLe.fin rfl rfl rfl rfl rfl ?_, trivial⟩
        all_goals (repeat' first | exact trivial | exact ⟨by kernel_rfl, by kernel_rfl⟩ | exact Or.inr (by kernel_rfl) | (show _ = _; kernel_rfl) | refine ⟨?_, ?_⟩)
  | k2 =>
    refine Brn.mk (fun q => absurd q (by decide +kernel)) (fun _ => ?_)
    refine Chk.mk hc ?_
    refine Brn.mk (fun q => absurd q (by decide +kernel)) (fun _ => ?_)
    generalize hso : (decide (l < stgF l g0 ((OI.mk e l a t p f0 f1 h (decide (IntKind.i64.wrap bf ≤ (k : Int))) (decide (IntKind.i64.wrap bf ≤ (k : Int))) c0 c1).d 0)) || decide (l < stgF l g1 ((OI.mk e l a t p f0 f1 h (decide (IntKind.i64.wrap bf ≤ (k : Int))) (decide (IntKind.i64.wrap bf ≤ (k : Int))) c0 c1).d 1))) = so
    refine Brn.mk (fun q => ?_) (fun q => ?_)
    · have q : (decide (IntKind.i64.wrap bf ≤ (k : Int))) = true := q
      have dd : ∀ i, (OI.mk e l a t p f0 f1 h (decide (IntKind.i64.wrap bf ≤ (k : Int))) (decide (IntKind.i64.wrap bf ≤ (k : Int))) c0 c1).d i = false := fun i => OI.d_off q i
      have hq : bf.toNat ≤ k := eA.1 (of_decide_eq_true q)
      have nx : ∀ i, (k + 1 - bf.toNat = 0 ∨ (k + 1 - bf.toNat = k - bf.toNat + 1 ∧ (OI.mk e l a t p f0 f1 h (decide (IntKind.i64.wrap bf ≤ (k : Int))) (decide (IntKind.i64.wrap bf ≤ (k : Int))) c0 c1).d i = false)) := fun i => .inr ⟨by omega, dd i⟩
      have eM : wr (((k - bf.toNat : Nat) : Int) + 1) = ((k + 1 - bf.toNat : Nat) : Int) := by rw [wr_id (by omega) (by omega)]; omega
      refine Brn.mk (fun q2 => absurd (show (!(((OI.mk e l a t p f0 f1 h (decide (IntKind.i64.wrap bf ≤ (k : Int))) (decide (IntKind.i64.wrap bf ≤ (k : Int))) c0 c1).d 0 == false) && (((OI.mk e l a t p f0 f1 h (decide (IntKind.i64.wrap bf ≤ (k : Int))) (decide (IntKind.i64.wrap bf ≤ (k : Int))) c0 c1).d 1 == false) && true))) = true from q2) (by rw [dd, dd]; decide)) (fun _ => ?_)
      refine Brn.mk (fun _ => ?_) (fun q2 => absurd (show (decide (IntKind.i64.wrap bf ≤ (k : Int))) = false from q2) (by rw [q]; decide))
      refine Brn.mk (fun q3 => ?_) (fun q3 => ?_)
      · have q3 : wr (l + 1) < wr (((k - bf.toNat : Nat) : Int) + 1) := of_decide_eq_true q3
        have q4 : l + 1 < ((k - bf.toNat : Nat) : Int) + 1 := by rw [wr_id (by omega) (by omega), wr_id (by omega) (by omega)] at q3; exact q3
        have es : so = true := by
          rw [← hso, Bool.or_eq_true]
          have := so_yes (g := g0) ⟨hl0, hl1⟩ (ha (fun h => by cases h)) q4
          exact Or.inl (by rw [dd 0]; exact this)
        subst es
        refine Brn.mk (fun q => absurd (show (!true) = true from q) (by decide)) (fun _ => ?_)
        refine Chk.mk ⟨⟨rfl, rfl, rfl, rfl, rfl, rfl⟩, rfl, rfl, rfl, rfl, rfl, rfl⟩ ?_
        refine Chk.mk (by kernel_rfl) ?_
        refine Brn.mk (fun q => absurd q (by decide +kernel)) (fun _ => ?_)
        refine Brn.mk (fun _ => ?_) (fun q => absurd (show true = false from q) (by decide))
        refine Chk.mk ⟨rfl, rfl, rfl, rfl, rfl, rfl⟩ ?_
        refine Brn.mk (fun q => absurd (show false = true from q) (by decide)) (fun _ => ?_)
        refine Chk.mk (by kernel_rfl) ?_
        refine ⟨⟨⟨k + 1, (OI.mk e l a t p f0 f1 h (decide (IntKind.i64.wrap bf ≤ (k : Int))) (decide (IntKind.i64.wrap bf ≤ (k : Int))) c0 c1).t2, (OI.mk e l a t p f0 f1 h (decide (IntKind.i64.wrap bf ≤ (k : Int))) (decide (IntKind.i64.wrap bf ≤ (k : Int))) c0 c1).ap, (OI.mk e l a t p f0 f1 h (decide (IntKind.i64.wrap bf ≤ (k : Int))) (decide (IntKind.i64.wrap bf ≤ (k : Int))) c0 c1).g 0 f0, (OI.mk e l a t p f0 f1 h (decide (IntKind.i64.wrap bf ≤ (k : Int))) (decide (IntKind.i64.wrap bf ≤ (k : Int))) c0 c1).g 1 f1, (OI.mk e l a t p f0 f1 h (decide (IntKind.i64.wrap bf ≤ (k : Int))) (decide (IntKind.i64.wrap bf ≤ (k : Int))) c0 c1).d 0, (OI.mk e l a t p f0 f1 h (decide (IntKind.i64.wrap bf ≤ (k : Int))) (decide (IntKind.i64.wrap bf ≤ (k : Int))) c0 c1).d 1, (OI.mk e l a t p f0 f1 h (decide (IntKind.i64.wrap bf ≤ (k : Int))) (decide (IntKind.i64.wrap bf ≤ (k : Int))) c0 c1).l3, stgF l g0 ((OI.mk e l a t p f0 f1 h (decide (IntKind.i64.wrap bf ≤ (k : Int))) (decide (IntKind.i64.wrap bf ≤ (k : Int))) c0 c1).d 0), stgF l g1 ((OI.mk e l a t p f0 f1 h (decide (IntKind.i64.wrap bf ≤ (k : Int))) (decide (IntKind.i64.wrap bf ≤ (k : Int))) c0 c1).d 1), true, ((OI.mk e l a t p f0 f1 h (decide (IntKind.i64.wrap bf ≤ (k : Int))) (decide (IntKind.i64.wrap bf ≤ (k : Int))) c0 c1).d 0), ((OI.mk e l a t p f0 f1 h (decide (IntKind.i64.wrap bf ≤ (k : Int))) (decide (IntKind.i64.wrap bf ≤ (k : Int))) c0 c1).d 1)⟩, ⟨by show k + 1 ≤ 300; omega, fun _ => stg_next ⟨hl0, hl1⟩ (ha (fun h => by cases h)) (nx 0), fun _ => stg_next ⟨hl0, hl1⟩ (hb' (fun h => by cases h)) (nx 1)⟩⟩, by show 300 - (k + 1) < 300 - k; omega, ?_⟩
        refine wk_of [(3, some 3), (7, some 7), (9, some 9), (11, some 11)] rfl ⟨⟨rfl, rfl⟩, rfl, rfl, rfl, ⟨rfl, rfl⟩, rfl, renI eM, ⟨rfl, rfl⟩, ⟨wrS (i := k) (by omega), rfl⟩, trivial⟩ ⟨RowLe.fin rfl rfl rfl rfl rfl ?_, RowLe.fin rfl rfl rfl rfl rfl ?_, RowLe.fin rfl rfl rfl rfl rfl ?_, RowLe.fin rfl rfl rfl rfl rfl ?_, trivial⟩
        all_goals (repeat' first | exact trivial | exact ⟨by kernel_rfl, by kernel_rfl⟩ | exact Or.inr (by kernel_rfl) | (show _ = _; kernel_rfl) | refine ⟨?_, ?_⟩)
      · have q3 : ¬ wr (l + 1) < wr (((k - bf.toNat : Nat) : Int) + 1) := of_decide_eq_false q3
        cases so with
        | true =>
          refine Chk.mk ⟨⟨rfl, rfl, rfl, rfl, rfl, rfl⟩, rfl, rfl, rfl, rfl, rfl, rfl⟩ ?_
          refine Chk.mk (by kernel_rfl) ?_
          refine Brn.mk (fun q => absurd q (by decide +kernel)) (fun _ => ?_)
          refine Brn.mk (fun _ => ?_) (fun q => absurd (show true = false from q) (by decide))
          refine Chk.mk ⟨rfl, rfl, rfl, rfl, rfl, rfl⟩ ?_
          refine Brn.mk (fun q => absurd (show false = true from q) (by decide)) (fun _ => ?_)
          refine Chk.mk (by kernel_rfl) ?_
          refine ⟨⟨⟨k + 1, (OI.mk e l a t p f0 f1 h (decide (IntKind.i64.wrap bf ≤ (k : Int))) (decide (IntKind.i64.wrap bf ≤ (k : Int))) c0 c1).t2, (OI.mk e l a t p f0 f1 h (decide (IntKind.i64.wrap bf ≤ (k : Int))) (decide (IntKind.i64.wrap bf ≤ (k : Int))) c0 c1).ap, (OI.mk e l a t p f0 f1 h (decide (IntKind.i64.wrap bf ≤ (k : Int))) (decide (IntKind.i64.wrap bf ≤ (k : Int))) c0 c1).g 0 f0, (OI.mk e l a t p f0 f1 h (decide (IntKind.i64.wrap bf ≤ (k : Int))) (decide (IntKind.i64.wrap bf ≤ (k : Int))) c0 c1).g 1 f1, (OI.mk e l a t p f0 f1 h (decide (IntKind.i64.wrap bf ≤ (k : Int))) (decide (IntKind.i64.wrap bf ≤ (k : Int))) c0 c1).d 0, (OI.mk e l a t p f0 f1 h (decide (IntKind.i64.wrap bf ≤ (k : Int))) (decide (IntKind.i64.wrap bf ≤ (k : Int))) c0 c1).d 1, (OI.mk e l a t p f0 f1 h (decide (IntKind.i64.wrap bf ≤ (k : Int))) (decide (IntKind.i64.wrap bf ≤ (k : Int))) c0 c1).l3, stgF l g0 ((OI.mk e l a t p f0 f1 h (decide (IntKind.i64.wrap bf ≤ (k : Int))) (decide (IntKind.i64.wrap bf ≤ (k : Int))) c0 c1).d 0), stgF l g1 ((OI.mk e l a t p f0 f1 h (decide (IntKind.i64.wrap bf ≤ (k : Int))) (decide (IntKind.i64.wrap bf ≤ (k : Int))) c0 c1).d 1), true, ((OI.mk e l a t p f0 f1 h (decide (IntKind.i64.wrap bf ≤ (k : Int))) (decide (IntKind.i64.wrap bf ≤ (k : Int))) c0 c1).d 0), ((OI.mk e l a t p f0 f1 h (decide (IntKind.i64.wrap bf ≤ (k : Int))) (decide (IntKind.i64.wrap bf ≤ (k : Int))) c0 c1).d 1)⟩, ⟨by show k + 1 ≤ 300; omega, fun _ => stg_next ⟨hl0, hl1⟩ (ha (fun h => by cases h)) (nx 0), fun _ => stg_next ⟨hl0, hl1⟩ (hb' (fun h => by cases h)) (nx 1)⟩⟩, by show 300 - (k + 1) < 300 - k; omega, ?_⟩
          refine wk_of [(3, some 3), (7, some 7), (9, some 9), (11, some 11)] rfl ⟨⟨rfl, rfl⟩, rfl, rfl, rfl, ⟨rfl, rfl⟩, rfl, renI eM, ⟨rfl, rfl⟩, ⟨wrS (i := k) (by omega), rfl⟩, trivial⟩ ⟨RowLe.fin rfl rfl rfl rfl rfl ?_, RowLe.fin rfl rfl rfl rfl rfl ?_, RowLe.fin rfl rfl rfl rfl rfl ?_, RowLe.fin rfl rfl rfl rfl rfl ?_, trivial⟩
          all_goals (repeat' first | exact trivial | exact ⟨by kernel_rfl, by kernel_rfl⟩ | exact Or.inr (by kernel_rfl) | (show _ = _; kernel_rfl) | refine ⟨?_, ?_⟩)
        | false =>
          refine Chk.mk ⟨⟨rfl, rfl, rfl, rfl, rfl, rfl⟩, rfl, rfl, rfl, rfl, rfl, rfl⟩ ?_
          refine Chk.mk (by kernel_rfl) ?_
          refine Brn.mk (fun q => absurd q (by decide +kernel)) (fun _ => ?_)
          refine Brn.mk (fun q => absurd (show false = true from q) (by decide)) (fun _ => ?_)
          refine Chk.mk (by kernel_rfl) ?_
          refine ⟨⟨⟨k + 1, (OI.mk e l a t p f0 f1 h (decide (IntKind.i64.wrap bf ≤ (k : Int))) (decide (IntKind.i64.wrap bf ≤ (k : Int))) c0 c1).t2, (OI.mk e l a t p f0 f1 h (decide (IntKind.i64.wrap bf ≤ (k : Int))) (decide (IntKind.i64.wrap bf ≤ (k : Int))) c0 c1).ap, (OI.mk e l a t p f0 f1 h (decide (IntKind.i64.wrap bf ≤ (k : Int))) (decide (IntKind.i64.wrap bf ≤ (k : Int))) c0 c1).g 0 f0, (OI.mk e l a t p f0 f1 h (decide (IntKind.i64.wrap bf ≤ (k : Int))) (decide (IntKind.i64.wrap bf ≤ (k : Int))) c0 c1).g 1 f1, (OI.mk e l a t p f0 f1 h (decide (IntKind.i64.wrap bf ≤ (k : Int))) (decide (IntKind.i64.wrap bf ≤ (k : Int))) c0 c1).d 0, (OI.mk e l a t p f0 f1 h (decide (IntKind.i64.wrap bf ≤ (k : Int))) (decide (IntKind.i64.wrap bf ≤ (k : Int))) c0 c1).d 1, (OI.mk e l a t p f0 f1 h (decide (IntKind.i64.wrap bf ≤ (k : Int))) (decide (IntKind.i64.wrap bf ≤ (k : Int))) c0 c1).l3, stgF l g0 ((OI.mk e l a t p f0 f1 h (decide (IntKind.i64.wrap bf ≤ (k : Int))) (decide (IntKind.i64.wrap bf ≤ (k : Int))) c0 c1).d 0), stgF l g1 ((OI.mk e l a t p f0 f1 h (decide (IntKind.i64.wrap bf ≤ (k : Int))) (decide (IntKind.i64.wrap bf ≤ (k : Int))) c0 c1).d 1), false, ((OI.mk e l a t p f0 f1 h (decide (IntKind.i64.wrap bf ≤ (k : Int))) (decide (IntKind.i64.wrap bf ≤ (k : Int))) c0 c1).d 0), ((OI.mk e l a t p f0 f1 h (decide (IntKind.i64.wrap bf ≤ (k : Int))) (decide (IntKind.i64.wrap bf ≤ (k : Int))) c0 c1).d 1)⟩, ⟨by show k + 1 ≤ 300; omega, fun _ => stg_next ⟨hl0, hl1⟩ (ha (fun h => by cases h)) (nx 0), fun _ => stg_next ⟨hl0, hl1⟩ (hb' (fun h => by cases h)) (nx 1)⟩⟩, by show 300 - (k + 1) < 300 - k; omega, ?_⟩
          refine wk_of [(3, some 3), (7, some 7), (9, some 9), (11, some 11)] rfl ⟨⟨rfl, rfl⟩, rfl, rfl, rfl, ⟨rfl, rfl⟩, rfl, renI eM, ⟨rfl, rfl⟩, ⟨wrS (i := k) (by omega), rfl⟩, trivial⟩ ⟨RowLe.fin rfl rfl rfl rfl rfl ?_, RowLe.fin rfl rfl rfl rfl rfl ?_, RowLe.fin rfl rfl rfl rfl rfl ?_, RowLe.fin rfl rfl rfl rfl rfl ?_, trivial⟩
          all_goals (repeat' first | exact trivial | exact ⟨by kernel_rfl, by kernel_rfl⟩ | exact Or.inr (by kernel_rfl) | (show _ = _; kernel_rfl) | refine ⟨?_, ?_⟩)
    · have q : (decide (IntKind.i64.wrap bf ≤ (k : Int))) = false := q
      have hq : ¬ bf.toNat ≤ k := fun h => of_decide_eq_false q (eA.2 h)
      have nx : ∀ i, (k + 1 - bf.toNat = 0 ∨ (k + 1 - bf.toNat = k - bf.toNat + 1 ∧ (OI.mk e l a t p f0 f1 h (decide (IntKind.i64.wrap bf ≤ (k : Int))) (decide (IntKind.i64.wrap bf ≤ (k : Int))) c0 c1).d i = false)) := fun i => .inl (by omega)
      have eM : ((k - bf.toNat : Nat) : Int) = ((k + 1 - bf.toNat : Nat) : Int) := by omega
      refine Brn.mk (fun q2 => absurd (show (decide (IntKind.i64.wrap bf ≤ (k : Int))) = true from q2) (by rw [q]; decide)) (fun _ => ?_)
      cases so with
      | true =>
        refine Chk.mk ⟨⟨rfl, rfl, rfl, rfl, rfl, rfl⟩, rfl, rfl, rfl, rfl, rfl, rfl⟩ ?_
        refine Chk.mk (by kernel_rfl) ?_
        refine Brn.mk (fun q => absurd q (by decide +kernel)) (fun _ => ?_)
        refine Brn.mk (fun _ => ?_) (fun q => absurd (show true = false from q) (by decide))
        refine Chk.mk ⟨rfl, rfl, rfl, rfl, rfl, rfl⟩ ?_
        refine Brn.mk (fun q => absurd (show false = true from q) (by decide)) (fun _ => ?_)
        refine Chk.mk (by kernel_rfl) ?_
        refine ⟨⟨⟨k + 1, (OI.mk e l a t p f0 f1 h (decide (IntKind.i64.wrap bf ≤ (k : Int))) (decide (IntKind.i64.wrap bf ≤ (k : Int))) c0 c1).t2, (OI.mk e l a t p f0 f1 h (decide (IntKind.i64.wrap bf ≤ (k : Int))) (decide (IntKind.i64.wrap bf ≤ (k : Int))) c0 c1).ap, (OI.mk e l a t p f0 f1 h (decide (IntKind.i64.wrap bf ≤ (k : Int))) (decide (IntKind.i64.wrap bf ≤ (k : Int))) c0 c1).g 0 f0, (OI.mk e l a t p f0 f1 h (decide (IntKind.i64.wrap bf ≤ (k : Int))) (decide (IntKind.i64.wrap bf ≤ (k : Int))) c0 c1).g 1 f1, (OI.mk e l a t p f0 f1 h (decide (IntKind.i64.wrap bf ≤ (k : Int))) (decide (IntKind.i64.wrap bf ≤ (k : Int))) c0 c1).d 0, (OI.mk e l a t p f0 f1 h (decide (IntKind.i64.wrap bf ≤ (k : Int))) (decide (IntKind.i64.wrap bf ≤ (k : Int))) c0 c1).d 1, (OI.mk e l a t p f0 f1 h (decide (IntKind.i64.wrap bf ≤ (k : Int))) (decide (IntKind.i64.wrap bf ≤ (k : Int))) c0 c1).l3, stgF l g0 ((OI.mk e l a t p f0 f1 h (decide (IntKind.i64.wrap bf ≤ (k : Int))) (decide (IntKind.i64.wrap bf ≤ (k : Int))) c0 c1).d 0), stgF l g1 ((OI.mk e l a t p f0 f1 h (decide (IntKind.i64.wrap bf ≤ (k : Int))) (decide (IntKind.i64.wrap bf ≤ (k : Int))) c0 c1).d 1), true, ((OI.mk e l a t p f0 f1 h (decide (IntKind.i64.wrap bf ≤ (k : Int))) (decide (IntKind.i64.wrap bf ≤ (k : Int))) c0 c1).d 0), ((OI.mk e l a t p f0 f1 h (decide (IntKind.i64.wrap bf ≤ (k : Int))) (decide (IntKind.i64.wrap bf ≤ (k : Int))) c0 c1).d 1)⟩, ⟨by show k + 1 ≤ 300; omega, fun _ => stg_next ⟨hl0, hl1⟩ (ha (fun h => by cases h)) (nx 0), fun _ => stg_next ⟨hl0, hl1⟩ (hb' (fun h => by cases h)) (nx 1)⟩⟩, by show 300 - (k + 1) < 300 - k; omega, ?_⟩
        refine wk_of [(3, some 3), (7, some 7), (9, some 9), (11, some 11)] rfl ⟨⟨rfl, rfl⟩, rfl, rfl, rfl, ⟨rfl, rfl⟩, rfl, renI eM, ⟨rfl, rfl⟩, ⟨wrS (i := k) (by omega), rfl⟩, trivial⟩ ⟨RowLe.fin rfl rfl rfl rfl rfl ?_, RowLe.fin rfl rfl rfl rfl rfl ?_, RowLe.fin rfl rfl rfl rfl rfl ?_, RowLe.fin rfl rfl rfl rfl rfl ?_, trivial⟩
        all_goals (repeat' first | exact trivial | exact ⟨by kernel_rfl, by kernel_rfl⟩ | exact Or.inr (by kernel_rfl) | (show _ = _; kernel_rfl) | refine ⟨?_, ?_⟩)
      | false =>
        refine Chk.mk ⟨⟨rfl, rfl, rfl, rfl, rfl, rfl⟩, rfl, rfl, rfl, rfl, rfl, rfl⟩ ?_
        refine Chk.mk (by kernel_rfl) ?_
        refine Brn.mk (fun q => absurd q (by decide +kernel)) (fun _ => ?_)
        refine Brn.mk (fun q => absurd (show false = true from q) (by decide)) (fun _ => ?_)
        refine Chk.mk (by kernel_rfl) ?_
        refine ⟨⟨⟨k + 1, (OI.mk e l a t p f0 f1 h (decide (IntKind.i64.wrap bf ≤ (k : Int))) (decide (IntKind.i64.wrap bf ≤ (k : Int))) c0 c1).t2, (OI.mk e l a t p f0 f1 h (decide (IntKind.i64.wrap bf ≤ (k : Int))) (decide (IntKind.i64.wrap bf ≤ (k : Int))) c0 c1).ap, (OI.mk e l a t p f0 f1 h (decide (IntKind.i64.wrap bf ≤ (k : Int))) (decide (IntKind.i64.wrap bf ≤ (k : Int))) c0 c1).g 0 f0, (OI.mk e l a t p f0 f1 h (decide (IntKind.i64.wrap bf ≤ (k : Int))) (decide (IntKind.i64.wrap bf ≤ (k : Int))) c0 c1).g 1 f1, (OI.mk e l a t p f0 f1 h (decide (IntKind.i64.wrap bf ≤ (k : Int))) (decide (IntKind.i64.wrap bf ≤ (k : Int))) c0 c1).d 0, (OI.mk e l a t p f0 f1 h (decide (IntKind.i64.wrap bf ≤ (k : Int))) (decide (IntKind.i64.wrap bf ≤ (k : Int))) c0 c1).d 1, (OI.mk e l a t p f0 f1 h (decide (IntKind.i64.wrap bf ≤ (k : Int))) (decide (IntKind.i64.wrap bf ≤ (k : Int))) c0 c1).l3, stgF l g0 ((OI.mk e l a t p f0 f1 h (decide (IntKind.i64.wrap bf ≤ (k : Int))) (decide (IntKind.i64.wrap bf ≤ (k : Int))) c0 c1).d 0), stgF l g1 ((OI.mk e l a t p f0 f1 h (decide (IntKind.i64.wrap bf ≤ (k : Int))) (decide (IntKind.i64.wrap bf ≤ (k : Int))) c0 c1).d 1), false, ((OI.mk e l a t p f0 f1 h (decide (IntKind.i64.wrap bf ≤ (k : Int))) (decide (IntKind.i64.wrap bf ≤ (k : Int))) c0 c1).d 0), ((OI.mk e l a t p f0 f1 h (decide (IntKind.i64.wrap bf ≤ (k : Int))) (decide (IntKind.i64.wrap bf ≤ (k : Int))) c0 c1).d 1)⟩, ⟨by show k + 1 ≤ 300; omega, fun _ => stg_next ⟨hl0, hl1⟩ (ha (fun h => by cases h)) (nx 0), fun _ => stg_next ⟨hl0, hl1⟩ (hb' (fun h => by cases h)) (nx 1)⟩⟩, by show 300 - (k + 1) < 300 - k; omega, ?_⟩
        refine wk_of [(3, some 3), (7, some 7), (9, some 9), (11, some 11)] rfl ⟨⟨rfl, rfl⟩, rfl, rfl, rfl, ⟨rfl, rfl⟩, rfl, renI eM, ⟨rfl, rfl⟩, ⟨wrS (i := k) (by omega), rfl⟩, trivial⟩ ⟨RowLe.fin rfl rfl rfl rfl rfl ?_, RowLe.fin rfl rfl rfl rfl rfl ?_, RowLe.fin rfl rfl rfl rfl rfl ?_, RowLe.fin rfl rfl rfl rfl rfl ?_, trivial⟩
        all_goals (repeat' first | exact trivial | exact ⟨by kernel_rfl, by kernel_rfl⟩ | exact Or.inr (by kernel_rfl) | (show _ = _; kernel_rfl) | refine ⟨?_, ?_⟩)

theorem lifted4 (os : Os) (started : os.Started) (H : Type) (enc : TypeId × Value → H) :
    ReturnsInHanded {} Try.checked os 4 .any (Rows.wholeOffSpec.pre6 enc Try.prog Try.f4 Rows.wholeOffRow.domain false) (Rows.wholeOffSpec.post enc Try.prog Try.f4 false true false false) := by
  refine returnsInHanded_of_change (C := Try.checked) own0 started (by kernel_rfl) Try.func4
    (ChangeSpec.witness6 (enc := enc) (C := Try.checked) false ⟨#[], #[.agg #[.int .i64 0, .int .i64 0, .int .i64 0], .int .u8 0, .int .u8 0], []⟩ 8 (by kernel_rfl) (by kernel_rfl) (by kernel_rfl) (by kernel_rfl)) ?_
  intro W base args ds gs before hval hW _ _
  exact law_contract tabE0 (d := 9) (tb := 4) [41, 5, 5] (by kernel_rfl) (by kernel_rfl) (by kernel_rfl) rfl laidOut0 (by kernel_rfl) (by kernel_rfl)
    (fun H ds h => match ds, h with | [_, _, _], _ => rfl) law4 hval hW

theorem WholeOff_proved : Rows.WholeOffSaid :=
  OpenClaim.holds_of_wide (p := Try.pinned) (s := Rows.wholeOffSpec) (c := Rows.wholeOffRow) 4 Try.f4 rfl rfl rfl rfl rfl rfl rfl ⟨rfl, rfl, rfl, rfl, rfl⟩ rfl rfl rfl rfl rfl (by kernel_rfl) Try.func4 (by kernel_rfl)
    (of_decide_eq_true (by kernel_rfl)) (by unfold Func.isWrapper; rw [if_neg (of_decide_eq_false (by kernel_rfl))]; exact ⟨rfl, rfl⟩)
    (fun os started H enc _ => lifted4 os started H enc)
end
end Go.Proofs.Ytbhbjmneglkgnaa
