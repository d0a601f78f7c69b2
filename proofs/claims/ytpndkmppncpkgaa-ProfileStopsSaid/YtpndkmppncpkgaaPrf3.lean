/- Chapter 37: the weighted sum, the velocity. Conditions: none. -/
import Derived.Test.YtpndkmppncpkgaaPrf2
namespace Go.Proofs.Ytpndkmppncpkgaa.Img
open Go Go.Proofs.Ytpndkmppncpkgaa.AI Go.Proofs
noncomputable section
set_option maxRecDepth 100000
/-- What the closure gives. -/
def blkF (F : FuncId) (d v f r : Int) : Int → Int := if F = 39 then bAt v f r else bUp v f d
theorem blkF_nonneg {F : FuncId} {d v f r : Int} (B : Blk d v f r) (k : Int) : 0 ≤ blkF F d v f r k := by
  unfold blkF; split
  · exact bAt_nonneg B k
  · exact bUp_nonneg B k
theorem blkF_le {F : FuncId} {d v f r m : Int} (B : Blk d v f r) (hd : d ≤ m) (hv : v ≤ m) (k : Int) : blkF F d v f r k ≤ m := by
  unfold blkF; split
  · exact Int.le_trans (bAt_le B k) hv
  · exact Int.le_trans (bUp_le B k) hd
structure WOK (F : FuncId) (a b l d v f r : Int) : Prop where
  F : F = 39 ∨ F = 40
  a : 1 ≤ a ∧ a ≤ 256
  b : 1 ≤ b ∧ b ≤ 256
  l : -4611686018427387904 ≤ l ∧ l ≤ 4611686018427387904
  B : Blk d v f r
  d : d ≤ 1099511627776
  v : v ≤ 1099511627776
def sWgh : Sp
  | [.agg [.int .i64 _, .int .i64 _, .int .i64 a, .int .i64 b], .int .i64 l, .clo F [.agg [.int .i64 d, .int .i64 v, .int .i64 f, .int .i64 r]] []] =>
    .pre (WOK F a b l d v f r) (.int .i64 (wS a b (blkF F d v f r) l (a + b - 1).toNat))
  | _ => .no
theorem ok38 : EntOK Try.prog TE 38 sWgh := by
  refine ⟨callable_of Try.func38 (by kernel_rfl), fun args => ?_⟩
  unfold sWgh
  split
  · rename_i x y a b l F d v f r
    intro H
    obtain ⟨hF, ⟨a1, a2⟩, ⟨b1, b2⟩, ⟨l1, l2⟩, B, hd, hv⟩ := H
    have W := fun (n : Nat) (hn : (n : Int) ≤ a + b - 1) => wS_bound (m1 := a) (m2 := b) (last := l) (n := n) ⟨a1, a2⟩ ⟨b1, b2⟩ (blkF_nonneg (F := F) B) (blkF_le (F := F) B hd hv) hn
    have e1 : wr (wr (a + b) - 1) = a + b - 1 := by rw [wr_id (n := a + b) (by omega) (by omega), wr_id (by omega) (by omega)]
    have round : ∀ s : Nat, (s : Int) < a + b - 1 → wr (wS a b (blkF F d v f r) l s + wr (min (min (min (wr ((s : Int) + 1)) a) b) (wr (wr (wr (a + b) - 1) - s)) * blkF F d v f r (wr (l - s)))) = wS a b (blkF F d v f r) l (s + 1) := by
      intro s hs
      have w0 := W s (by omega)
      have w1 := W (s + 1) (by omega)
      have hm : wS a b (blkF F d v f r) l (s + 1) = wS a b (blkF F d v f r) l s + min (min (min ((s : Int) + 1) a) b) (a + b - 1 - s) * blkF F d v f r (l - s) := rfl
      have n0 := blkF_nonneg (F := F) B (l - s)
      have n1 := blkF_le (F := F) B hd hv (l - s)
      have p0 : 0 ≤ min (min (min ((s : Int) + 1) a) b) (a + b - 1 - s) * blkF F d v f r (l - s) := Int.mul_nonneg (by omega) n0
      have p1 : min (min (min ((s : Int) + 1) a) b) (a + b - 1 - s) * blkF F d v f r (l - s) ≤ 256 * 1099511627776 := Int.mul_le_mul (by omega) n1 n0 (by decide)
      rw [e1, wr_id (n := (s : Int) + 1) (by omega) (by omega), wr_id (n := a + b - 1 - s) (by omega) (by omega), wr_id (n := l - s) (by omega) (by omega), wr_id (n := _ * _) (by omega) (by omega), ← hm, wr_id (by omega) (by omega)]
    rcases hF with rfl | rfl
    · refine fn_ofF tabsOK (specOK_cons ok39 (specOK_cons ok40 specOK_nil)) mixed Try.func38 (by kernel_rfl) ?_
      refine LoopOK.mk ⟨{ s : Nat // s ≤ (a + b - 1).toNat }, fun s => mkSt [(1, .int .i64 l), (2, .clo 39 [.agg [.int .i64 d, .int .i64 v, .int .i64 f, .int .i64 r]] []), (3, .loc 3 0), (7, .int .i64 (wS a b (blkF 39 d v f r) l s.1)), (14, .int .i64 (a + b - 1)), (15, .int .i64 s.1)]
        [(3, ⟨23, 4, 1, fun _ j => nth [.int .i64 x, .int .i64 y, .int .i64 a, .int .i64 b] j, 0, true⟩)], fun s => (a + b - 1).toNat - s.1, ⟨⟨0, by omega⟩, ?_⟩, ?_⟩
      · refine wk_of [(3, some 3)] rfl ⟨⟨rfl, rfl⟩, ⟨rfl, rfl⟩, rfl, ⟨rfl, rfl⟩, ⟨by show AV.int .i64 (wr (wr (a + b) - 1)) = _; rw [e1], rfl⟩, ⟨rfl, rfl⟩, trivial⟩ ⟨RowLe.fin rfl rfl rfl rfl rfl ?_, trivial⟩
        (repeat' first | exact trivial | exact ⟨by kernel_rfl, by kernel_rfl⟩ | exact Or.inr (by kernel_rfl) | (show _ = _; kernel_rfl) | refine ⟨?_, ?_⟩)
      rintro ⟨s, hs⟩
      have hs : s ≤ (a + b - 1).toNat := hs
      refine Brn.mk (fun h => ?_) (fun h => ?_)
      · have h : (s : Int) < a + b - 1 := of_decide_eq_true h
        refine ⟨⟨s + 1, by omega⟩, by show (a + b - 1).toNat - (s + 1) < (a + b - 1).toNat - s; omega, ?_⟩
        refine wk_of [(3, some 3)] rfl ⟨⟨rfl, rfl⟩, ⟨rfl, rfl⟩, rfl, ⟨?_, rfl⟩, ⟨rfl, rfl⟩, ⟨wrS (i := s) (by omega), rfl⟩, trivial⟩ ⟨RowLe.fin rfl rfl rfl rfl rfl ?_, trivial⟩
        · have := round s h
          rw [e1] at this
          exact congrArg (AV.int .i64) (by rw [← this, e1]; rfl)
        (repeat' first | exact trivial | exact ⟨by kernel_rfl, by kernel_rfl⟩ | exact Or.inr (by kernel_rfl) | (show _ = _; kernel_rfl) | refine ⟨?_, ?_⟩)
      · have h : ¬ (s : Int) < a + b - 1 := of_decide_eq_false h
        have : s = (a + b - 1).toNat := by omega
        subst this
        exact AVle.int rfl
    · refine fn_ofF tabsOK (specOK_cons ok39 (specOK_cons ok40 specOK_nil)) mixed Try.func38 (by kernel_rfl) ?_
      refine LoopOK.mk ⟨{ s : Nat // s ≤ (a + b - 1).toNat }, fun s => mkSt [(1, .int .i64 l), (2, .clo 40 [.agg [.int .i64 d, .int .i64 v, .int .i64 f, .int .i64 r]] []), (3, .loc 3 0), (7, .int .i64 (wS a b (blkF 40 d v f r) l s.1)), (14, .int .i64 (a + b - 1)), (15, .int .i64 s.1)]
        [(3, ⟨23, 4, 1, fun _ j => nth [.int .i64 x, .int .i64 y, .int .i64 a, .int .i64 b] j, 0, true⟩)], fun s => (a + b - 1).toNat - s.1, ⟨⟨0, by omega⟩, ?_⟩, ?_⟩
      · refine wk_of [(3, some 3)] rfl ⟨⟨rfl, rfl⟩, ⟨rfl, rfl⟩, rfl, ⟨rfl, rfl⟩, ⟨by show AV.int .i64 (wr (wr (a + b) - 1)) = _; rw [e1], rfl⟩, ⟨rfl, rfl⟩, trivial⟩ ⟨RowLe.fin rfl rfl rfl rfl rfl ?_, trivial⟩
        (repeat' first | exact trivial | exact ⟨by kernel_rfl, by kernel_rfl⟩ | exact Or.inr (by kernel_rfl) | (show _ = _; kernel_rfl) | refine ⟨?_, ?_⟩)
      rintro ⟨s, hs⟩
      have hs : s ≤ (a + b - 1).toNat := hs
      refine Brn.mk (fun h => ?_) (fun h => ?_)
      · have h : (s : Int) < a + b - 1 := of_decide_eq_true h
        refine Chk.mk ⟨B, hd⟩ ?_
        refine ⟨⟨s + 1, by omega⟩, by show (a + b - 1).toNat - (s + 1) < (a + b - 1).toNat - s; omega, ?_⟩
        refine wk_of [(3, some 3)] rfl ⟨⟨rfl, rfl⟩, ⟨rfl, rfl⟩, rfl, ⟨?_, rfl⟩, ⟨rfl, rfl⟩, ⟨wrS (i := s) (by omega), rfl⟩, trivial⟩ ⟨RowLe.fin rfl rfl rfl rfl rfl ?_, trivial⟩
        · have := round s h
          rw [e1] at this
          exact congrArg (AV.int .i64) (by rw [← this, e1]; rfl)
        (repeat' first | exact trivial | exact ⟨by kernel_rfl, by kernel_rfl⟩ | exact Or.inr (by kernel_rfl) | (show _ = _; kernel_rfl) | refine ⟨?_, ?_⟩)
      · have h : ¬ (s : Int) < a + b - 1 := of_decide_eq_false h
        have : s = (a + b - 1).toNat := by omega
        subst this
        exact AVle.int rfl
  · trivial
end
end Go.Proofs.Ytpndkmppncpkgaa.Img
