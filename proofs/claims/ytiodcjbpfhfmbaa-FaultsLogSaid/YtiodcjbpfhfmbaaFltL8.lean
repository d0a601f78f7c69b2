/- Chapter 48: the log has the beginnings of faults in their order, at most the last 16. Conditions: none. -/
import Derived.Test.YtiodcjbpfhfmbaaFlt11
import Derived.Test.YtiodcjbpfhfmbaaRows
import Derived.ProofKit
namespace Go.Proofs.Ytiodcjbpfhfmbaa
open Go Go.Proofs.Ytiodcjbpfhfmbaa.AI Go.Proofs Go.Proofs.Ytiodcjbpfhfmbaa.Img Go.ChangeShapes Go.WideShapes Go.ChangeAt Go.RowKit
noncomputable section
set_option maxRecDepth 100000

theorem law8 (avs : List AV) (H : ArgAll E0 9 [22, 44] avs) : FnOK Try.prog TE 8 avs (.bit true) := by
  obtain ⟨l1, l2, h1, h2, rfl⟩ := argAll2 H
  obtain ⟨n, f, rfl, hf⟩ := openRul h1
  obtain ⟨m, g, rfl, hg⟩ := openTk h2
  show FnOK Try.prog TE 8 [.sl 2 n f, .sl 3 m g] (.bit true)
  refine FnOK.args (m := [.sl 2 n (rulF (vI f) (vL f)), .sl 3 m (tkF (vI g) (vP g) (vQ g))]) ?_ ⟨le2_sl hf.le1, le2_sl (hg _), trivial⟩
  generalize vI f = r
  generalize vL f = l
  generalize vI g = w
  generalize vP g = pa
  generalize vQ g = ps
  refine fn_ofF tabsOK (specOK_cons ok10 (specOK_cons ok12 (specOK_cons ok18b (specOK_cons ok21 (specOK_cons ok22 specOK_nil))))) mixed Try.func8 (by kernel_rfl) ?_
  refine Chk.mk isR_mk ?_
  refine Brn.mk (fun _ => AVle.bit rfl) (fun q => ?_)
  obtain ⟨hn, hm, hr⟩ := valid_ok (n := n) (m := m) (r := r) q
  obtain ⟨n1, n32, hrr⟩ := rchk_zero hr
  refine Chk.mk ⟨isR_mk, by omega⟩ ?_
  refine Brn.mk (fun q => absurd hr (ndT q)) (fun _ => ?_)
  refine LoopOK.mk ⟨{ p : Nat × FS × Nat × (Nat → Int) × (Nat → Int) × Int // p.1 ≤ m ∧ p.2.1.ok ∧ p.2.1.tk = p.1 ∧ p.2.1.x = bw p.2.2.2.2.2 ∧ LI p.2.1 p.2.2.1 p.2.2.2.1 p.2.2.2.2.1 ∧ p.2.2.1 ≤ 32 * p.1 }, fun p => mkSt [(0, .sl 2 n (rulF r l)), (1, .sl 3 m (tkF w pa ps)), (5, .loc 5 0), (7, .own 100 p.1.2.2.1), (8, .int .u32 p.1.2.2.2.2.2), (9, .int .i64 p.1.1)]
    [(5, ⟨28, 5, 1, fun _ j => nth (p.1.2.1.l n) j, 0, true⟩), (100, ⟨57, 2, p.1.2.2.1, evnF p.1.2.2.2.1 p.1.2.2.2.2.1, 1, false⟩)], fun p => m - p.1.1, ⟨⟨(0, FS.zero, 0, fun _ => 0, fun _ => 0, 0), Nat.zero_le _, FS.zero_ok, rfl, funext fun i => (bw_zero i).symm, LI.zero, Nat.zero_le _⟩, ?_⟩, ?_⟩
  · refine wk_of [(5, some 5), (100, none)] rfl ⟨⟨rfl, rfl⟩, ⟨rfl, rfl⟩, rfl, ⟨rfl, rfl⟩, ⟨rfl, rfl⟩, ⟨rfl, rfl⟩, trivial⟩ ⟨RowLe.fin rfl rfl rfl rfl rfl ⟨trivial, ⟨⟨⟨⟨⟨trivial, ?_⟩, ?_⟩, ?_⟩, ?_⟩, ?_⟩⟩, ⟨rfl, rfl, rfl⟩, trivial⟩
    · exact renS (zN0 hr) rfl
    · exact renS (zN0 hr) rfl
    · exact renI rfl
    · exact renI rfl
    · exact renS rfl rfl
  rintro ⟨⟨k, s, N, ea, eb, pw⟩, hk, hs, htk, hx, hL, hN⟩
  have hk : k ≤ m := hk
  have hs : s.ok := hs
  have htk : s.tk = (k : Int) := htk
  have hx : s.x = bw pw := hx
  have hL : LI s N ea eb := hL
  have hN : N ≤ 32 * k := hN
  have hsk := hs.k
  have es := FS.stp0 (n := n) hr hs
  refine Brn.mk (fun h1 => ?_) (fun _ => AVle.bit rfl)
  have h1 : (k : Int) < m := of_decide_eq_true h1
  have ix : (0 : Int) ≤ (k : Int) ∧ (k : Int) < (m : Int) := ⟨Int.natCast_nonneg k, h1⟩
  refine Chk.mk ix ?_
  refine Chk.mk ⟨Int.natCast_nonneg n, (show (n : Int) ≤ 1000 by omega)⟩ ?_
  refine Chk.mk ⟨⟨isR_mk, by omega⟩, stOK_mk (by omega) (by omega) (show s.k ≤ 1000 by omega), isB_mk, (show n ≤ 1000 by omega)⟩ ?_
  refine Chk.mk (by kernel_rfl) ?_
  refine Brn.mk (fun q => absurd es (ndT q)) (fun _ => ?_)
  have okS := FS.next_ok (n := n) (l := l) (now := bw (w k)) (ack := pa k) (still := ps k) hr hs
  have hL' := hL.next (n := n) (r := r) (l := l) (now := bw (w k)) (ack := pa k) (still := ps k)
  have hnt : nTk s.tk = (k : Int) + 1 := by rw [htk]; exact nTk_eq (by omega)
  have hw1 : wr ((k : Int) + 1) = (k : Int) + 1 := wr_id (by omega) (by omega)
  rw [hnt] at hL'
  obtain ⟨t, ht⟩ : ∃ t, t = s.next n r l (bw (w k)) (pa k) (ps k) := ⟨_, rfl⟩
  have hzk : zN (stpE n r n n s.re s.tk s.k n) (lgC (lgN s.k (ccF (bw (w k)) s.x) n)) = t.k := by rw [zN0 es, ht]; rfl
  refine Brn.mk (fun q => ?_) (fun _ => ?_)
  · have q : (!decide (zI (stpE n r n n s.re s.tk s.k n) (nTk s.tk) = wr ((k : Int) + 1))) = true := q
    rw [zI0 es, hnt, hw1] at q
    exact absurd q (by simp)
  rw [← ht] at hL' okS
  obtain ⟨c, hc⟩ : ∃ c, c = ccF (bw (w k)) s.x := ⟨_, rfl⟩
  rw [← hc] at hL'
  have hcc : ∀ i, c i = (bw (w k) i && !bw pw i) := fun i => by rw [hc, ccF, hx]
  have kN : ∀ i, i ≤ n → lgN N c i ≤ 9632 := fun i hi => by have := lgN_le N c i; omega
  refine LoopOK.mk ⟨{ i : Nat // i ≤ n }, fun i => mkSt [(0, .sl 2 n (rulF r l)), (1, .sl 3 m (tkF w pa ps)), (5, .loc 5 0), (7, .own 100 (lgN N c i.1)), (8, .int .u32 pw), (9, .int .i64 k), (10, .loc 10 0), (12, .int .i64 i.1)]
    [(5, ⟨28, 5, 1, fun _ j => nth (s.l n) j, 0, true⟩), (10, ⟨28, 5, 1, fun _ j => nth (t.l n) j, 0, true⟩), (100, ⟨57, 2, lgN N c i.1, evnF (lgA N c ea (fun i => i) i.1) (lgA N c eb (fun _ => (k : Int) + 1) i.1), 1, false⟩)], fun i => n - i.1, ⟨⟨0, Nat.zero_le _⟩, ?_⟩, ?_⟩
  · refine wk_of [(5, some 5), (10, some 10), (100, some 100)] rfl ⟨⟨rfl, rfl⟩, ⟨rfl, rfl⟩, rfl, rfl, ⟨rfl, rfl⟩, ⟨rfl, rfl⟩, rfl, ⟨rfl, rfl⟩, trivial⟩ ⟨RowLe.fin rfl rfl rfl rfl rfl ?_, RowLe.fin rfl rfl rfl rfl rfl ⟨trivial, ⟨⟨⟨⟨⟨trivial, ?_⟩, ?_⟩, ?_⟩, ?_⟩, ?_⟩⟩, ⟨rfl, rfl, rfl, rfl, rfl, fun _ _ _ _ => Or.inr rfl⟩, trivial⟩
    · (repeat' first | exact trivial | exact ⟨by kernel_rfl, by kernel_rfl⟩ | exact Or.inr (by kernel_rfl) | (show _ = _; kernel_rfl) | refine ⟨?_, ?_⟩)
    · subst ht; exact renS (zN0 es) rfl
    · subst ht; exact renS (zN0 es) rfl
    · subst ht; exact renI (zI0 es)
    · subst ht; exact renI (zI0 es)
    · subst ht; exact renS (zN0 es) rfl
  rintro ⟨i, hi⟩
  have hi : i ≤ n := hi
  have hNi := kN i hi
  refine Brn.mk (fun h2 => ?_) (fun h2 => ?_)
  · have h2 : (i : Int) < n := of_decide_eq_true h2
    refine Chk.mk ix ?_
    refine Chk.mk (Int.natCast_nonneg i) ?_
    refine Brn.mk (fun h3 => ?_) (fun h3 => ?_)
    · have h3 : bw (w k) i = true := h3
      refine Chk.mk (Int.natCast_nonneg i) ?_
      refine Brn.mk (fun h4 => ?_) (fun h4 => ?_)
      · have hci : c i = true := by rw [hcc, h3, ← bw_not]; exact h4
        refine Chk.mk ⟨(show (lgN N c i + 1) * 16 ≤ 140737488355328 by omega), (show lgN N c i + 1 ≤ 9223372036854775807 by omega)⟩ ?_
        refine ⟨⟨i + 1, by omega⟩, by show n - (i + 1) < n - i; omega, ?_⟩
        have eN : lgN N c (i + 1) = lgN N c i + 1 := if_pos hci
        have eA : lgA N c ea (fun i => i) (i + 1) = fun j => if j < lgN N c i then lgA N c ea (fun i => i) i j else i := if_pos hci
        have eB : lgA N c eb (fun _ => (k : Int) + 1) (i + 1) = fun j => if j < lgN N c i then lgA N c eb (fun _ => (k : Int) + 1) i j else (k : Int) + 1 := if_pos hci
        refine wk_of [(5, some 5), (10, some 10), (100, some 87)] rfl ⟨⟨rfl, rfl⟩, ⟨rfl, rfl⟩, rfl, congrArg (AV.own 87) eN.symm, ⟨rfl, rfl⟩, ⟨rfl, rfl⟩, rfl, ⟨wrS (i := i) (by omega), rfl⟩, trivial⟩ ⟨RowLe.fin rfl rfl rfl rfl rfl ?_, RowLe.fin rfl rfl rfl rfl rfl ?_, ⟨rfl, rfl, eN, rfl, rfl, fun a b ha hb => Or.inr ?_⟩, trivial⟩
        · (repeat' first | exact trivial | exact ⟨by kernel_rfl, by kernel_rfl⟩ | exact Or.inr (by kernel_rfl) | (show _ = _; kernel_rfl) | refine ⟨?_, ?_⟩)
        · (repeat' first | exact trivial | exact ⟨by kernel_rfl, by kernel_rfl⟩ | exact Or.inr (by kernel_rfl) | (show _ = _; kernel_rfl) | refine ⟨?_, ?_⟩)
        · show evnF (lgA N c ea (fun i => i) (i + 1)) (lgA N c eb (fun _ => (k : Int) + 1) (i + 1)) a b = _
          rw [eA, eB]
          dsimp only
          refine app2 (n := lgN N c i) (A := lgA N c ea (fun i => i) i) (B := lgA N c eb (fun _ => (k : Int) + 1) i) (A' := fun j => if j < lgN N c i then lgA N c ea (fun i => i) i j else (i : Int)) (B' := fun j => if j < lgN N c i then lgA N c eb (fun _ => (k : Int) + 1) i j else (k : Int) + 1) (fun j hj => ⟨(if_pos hj).symm, (if_pos hj).symm⟩) ?_ ?_ ha hb
          · exact congrArg (AV.int .i64) (if_neg (Nat.lt_irrefl (lgN N c i))).symm
          · exact congrArg (AV.int .i64) (hw1.trans (if_neg (Nat.lt_irrefl (lgN N c i))).symm)
      · have hci : c i = false := by rw [hcc, h3, ← bw_not]; exact h4
        refine ⟨⟨i + 1, by omega⟩, by show n - (i + 1) < n - i; omega, ?_⟩
        have eN : lgN N c (i + 1) = lgN N c i := if_neg (by rw [hci]; decide)
        have eA : lgA N c ea (fun i => i) (i + 1) = lgA N c ea (fun i => i) i := if_neg (by rw [hci]; decide)
        have eB : lgA N c eb (fun _ => (k : Int) + 1) (i + 1) = lgA N c eb (fun _ => (k : Int) + 1) i := if_neg (by rw [hci]; decide)
        refine wk_of [(5, some 5), (10, some 10), (100, some 100)] rfl ⟨⟨rfl, rfl⟩, ⟨rfl, rfl⟩, rfl, congrArg (AV.own 100) eN.symm, ⟨rfl, rfl⟩, ⟨rfl, rfl⟩, rfl, ⟨wrS (i := i) (by omega), rfl⟩, trivial⟩ ⟨RowLe.fin rfl rfl rfl rfl rfl ?_, RowLe.fin rfl rfl rfl rfl rfl ?_, ⟨rfl, rfl, eN, rfl, rfl, fun a b ha hb => Or.inr ?_⟩, trivial⟩
        · (repeat' first | exact trivial | exact ⟨by kernel_rfl, by kernel_rfl⟩ | exact Or.inr (by kernel_rfl) | (show _ = _; kernel_rfl) | refine ⟨?_, ?_⟩)
        · (repeat' first | exact trivial | exact ⟨by kernel_rfl, by kernel_rfl⟩ | exact Or.inr (by kernel_rfl) | (show _ = _; kernel_rfl) | refine ⟨?_, ?_⟩)
        · show evnF (lgA N c ea (fun i => i) (i + 1)) (lgA N c eb (fun _ => (k : Int) + 1) (i + 1)) a b = _
          rw [eA, eB]
    · have h3 : bw (w k) i = false := h3
      have hci : c i = false := by rw [hcc, h3]; rfl
      refine ⟨⟨i + 1, by omega⟩, by show n - (i + 1) < n - i; omega, ?_⟩
      have eN : lgN N c (i + 1) = lgN N c i := if_neg (by rw [hci]; decide)
      have eA : lgA N c ea (fun i => i) (i + 1) = lgA N c ea (fun i => i) i := if_neg (by rw [hci]; decide)
      have eB : lgA N c eb (fun _ => (k : Int) + 1) (i + 1) = lgA N c eb (fun _ => (k : Int) + 1) i := if_neg (by rw [hci]; decide)
      refine wk_of [(5, some 5), (10, some 10), (100, some 100)] rfl ⟨⟨rfl, rfl⟩, ⟨rfl, rfl⟩, rfl, congrArg (AV.own 100) eN.symm, ⟨rfl, rfl⟩, ⟨rfl, rfl⟩, rfl, ⟨wrS (i := i) (by omega), rfl⟩, trivial⟩ ⟨RowLe.fin rfl rfl rfl rfl rfl ?_, RowLe.fin rfl rfl rfl rfl rfl ?_, ⟨rfl, rfl, eN, rfl, rfl, fun a b ha hb => Or.inr ?_⟩, trivial⟩
      · (repeat' first | exact trivial | exact ⟨by kernel_rfl, by kernel_rfl⟩ | exact Or.inr (by kernel_rfl) | (show _ = _; kernel_rfl) | refine ⟨?_, ?_⟩)
      · (repeat' first | exact trivial | exact ⟨by kernel_rfl, by kernel_rfl⟩ | exact Or.inr (by kernel_rfl) | (show _ = _; kernel_rfl) | refine ⟨?_, ?_⟩)
      · show evnF (lgA N c ea (fun i => i) (i + 1)) (lgA N c eb (fun _ => (k : Int) + 1) (i + 1)) a b = _
        rw [eA, eB]
  · have h2 : ¬ (i : Int) < n := of_decide_eq_false h2
    have hin : i = n := by omega
    subst hin
    refine Chk.mk ix ?_
    have hK := hL'.k
    have e16 : max 0 (wr ((lgN N c i : Int) - 16)) = ((lgN N c i - 16 : Nat) : Int) := by rw [wr_id (by omega) (by omega)]; omega
    have eD : wr ((lgN N c i : Int) - ((lgN N c i - 16 : Nat) : Int)) = (t.k : Int) := by rw [wr_id (by omega) (by omega)]; omega
    refine Brn.mk (fun q => ?_) (fun _ => ?_)
    · have q : (!decide ((t.k : Int) = wr ((lgN N c i : Int) - max 0 (wr ((lgN N c i : Int) - 16))))) = true := q
      rw [e16, eD] at q
      exact absurd q (by simp)
    refine LoopOK.mk ⟨{ j : Nat // j ≤ t.k }, fun j => mkSt [(0, .sl 2 i (rulF r l)), (1, .sl 3 m (tkF w pa ps)), (5, .loc 5 0), (7, .own 100 (lgN N c i)), (8, .int .u32 (w k)), (9, .int .i64 k), (10, .loc 10 0), (13, .int .i64 ((lgN N c i - 16 : Nat) : Int)), (14, .int .i64 j.1)]
      [(5, ⟨28, 5, 1, fun _ j => nth (s.l i) j, 0, true⟩), (10, ⟨28, 5, 1, fun _ j => nth (t.l i) j, 0, true⟩), (100, ⟨57, 2, lgN N c i, evnF (lgA N c ea (fun i => i) i) (lgA N c eb (fun _ => (k : Int) + 1) i), 1, false⟩)], fun j => t.k - j.1, ⟨⟨0, Nat.zero_le _⟩, ?_⟩, ?_⟩
    · refine wk_of [(5, some 5), (10, some 10), (100, some 100)] rfl ⟨⟨rfl, rfl⟩, ⟨rfl, rfl⟩, rfl, rfl, ⟨rfl, rfl⟩, ⟨rfl, rfl⟩, rfl, ⟨congrArg (AV.int .i64) e16, rfl⟩, ⟨rfl, rfl⟩, trivial⟩ ⟨RowLe.fin rfl rfl rfl rfl rfl ?_, RowLe.fin rfl rfl rfl rfl rfl ?_, ⟨rfl, rfl, rfl, rfl, rfl, fun _ _ _ _ => Or.inr rfl⟩, trivial⟩
      · (repeat' first | exact trivial | exact ⟨by kernel_rfl, by kernel_rfl⟩ | exact Or.inr (by kernel_rfl) | (show _ = _; kernel_rfl) | refine ⟨?_, ?_⟩)
      · (repeat' first | exact trivial | exact ⟨by kernel_rfl, by kernel_rfl⟩ | exact Or.inr (by kernel_rfl) | (show _ = _; kernel_rfl) | refine ⟨?_, ?_⟩)
    rintro ⟨j, hj⟩
    have hj : j ≤ t.k := hj
    refine Brn.mk (fun h3 => ?_) (fun h3 => ?_)
    · have h3 : (j : Int) < t.k := of_decide_eq_true h3
      have ej : wr (((lgN N c i - 16 : Nat) : Int) + j) = ((lgN N c i - t.k + j : Nat) : Int) := by rw [wr_id (by omega) (by omega)]; omega
      refine Chk.mk ⟨Int.natCast_nonneg j, h3⟩ ?_
      refine Chk.mk (show 0 ≤ wr (((lgN N c i - 16 : Nat) : Int) + j) ∧ wr (((lgN N c i - 16 : Nat) : Int) + j) < (lgN N c i : Int) by omega) ?_
      refine Brn.mk (fun q => ?_) (fun _ => ?_)
      · have q : (!(decide (t.ea j = lgA N c ea (fun i => i) i (wr (((lgN N c i - 16 : Nat) : Int) + j)).toNat) && (decide (t.eb j = lgA N c eb (fun _ => (k : Int) + 1) i (wr (((lgN N c i - 16 : Nat) : Int) + j)).toNat) && true))) = true := q
        rw [ej, Int.toNat_natCast, hL'.a j (by omega), hL'.b j (by omega)] at q
        exact absurd q (by simp)
      refine ⟨⟨j + 1, by omega⟩, by show t.k - (j + 1) < t.k - j; omega, ?_⟩
      refine wk_of [(5, some 5), (10, some 10), (100, some 100)] rfl ⟨⟨rfl, rfl⟩, ⟨rfl, rfl⟩, rfl, rfl, ⟨rfl, rfl⟩, ⟨rfl, rfl⟩, rfl, ⟨rfl, rfl⟩, ⟨wrS (i := j) (by omega), rfl⟩, trivial⟩ ⟨RowLe.fin rfl rfl rfl rfl rfl ?_, RowLe.fin rfl rfl rfl rfl rfl ?_, ⟨rfl, rfl, rfl, rfl, rfl, fun _ _ _ _ => Or.inr rfl⟩, trivial⟩
      · (repeat' first | exact trivial | exact ⟨by kernel_rfl, by kernel_rfl⟩ | exact Or.inr (by kernel_rfl) | (show _ = _; kernel_rfl) | refine ⟨?_, ?_⟩)
      · (repeat' first | exact trivial | exact ⟨by kernel_rfl, by kernel_rfl⟩ | exact Or.inr (by kernel_rfl) | (show _ = _; kernel_rfl) | refine ⟨?_, ?_⟩)
    · refine ⟨⟨(k + 1, t, lgN N c i, lgA N c ea (fun i => i) i, lgA N c eb (fun _ => (k : Int) + 1) i, w k), by show k + 1 ≤ m; omega, okS, by show t.tk = ((k + 1 : Nat) : Int); rw [ht]; show nTk s.tk = _; rw [hnt]; omega, by show t.x = bw (w k); rw [ht]; rfl, hL', by show lgN N c i ≤ 32 * (k + 1); have := lgN_le N c i; omega⟩, by show m - (k + 1) < m - k; omega, ?_⟩
      refine wk_of [(5, some 5), (100, some 100)] rfl ⟨⟨rfl, rfl⟩, ⟨rfl, rfl⟩, rfl, rfl, ⟨rfl, rfl⟩, ⟨wrS (i := k) (by omega), rfl⟩, trivial⟩ ⟨RowLe.fin rfl rfl rfl rfl rfl ?_, ⟨rfl, rfl, rfl, rfl, rfl, fun _ _ _ _ => Or.inr rfl⟩, trivial⟩
      · (repeat' first | exact trivial | exact ⟨by kernel_rfl, by kernel_rfl⟩ | exact Or.inr (by kernel_rfl) | (show _ = _; kernel_rfl) | refine ⟨?_, ?_⟩)

theorem lifted8 (os : Os) (started : os.Started) (H : Type) (enc : TypeId × Value → H) :
    ReturnsInHanded {} Try.checked os 8 .any (Rows.faultsLogSpec.pre6 enc Try.prog Try.f8 Rows.faultsLogRow.domain false) (Rows.faultsLogSpec.post enc Try.prog Try.f8 false true false false) := by
  refine returnsInHanded_of_change (C := Try.checked) own0 started (by kernel_rfl) Try.func8
    (ChangeSpec.witness6 (enc := enc) (C := Try.checked) false ⟨#[], #[.slice none 0 0, .slice none 0 0], []⟩ 8 (by kernel_rfl) (by kernel_rfl) (by kernel_rfl) (by kernel_rfl)) ?_
  intro W base args ds gs before hval hW _ _
  exact law_contract tabE0 (d := 9) (tb := 4) [22, 44] (by kernel_rfl) (by kernel_rfl) (by kernel_rfl) rfl laidOut0 (by kernel_rfl) (by kernel_rfl)
    (fun H ds h => match ds, h with | [_, _], _ => rfl) law8 hval hW

theorem FaultsLog_proved : Rows.FaultsLogSaid :=
  OpenClaim.holds_of_wide (p := Try.pinned) (s := Rows.faultsLogSpec) (c := Rows.faultsLogRow) 8 Try.f8 rfl rfl rfl rfl rfl rfl rfl ⟨rfl, rfl, rfl, rfl, rfl⟩ rfl rfl rfl rfl rfl (by kernel_rfl) Try.func8 (by kernel_rfl)
    (of_decide_eq_true (by kernel_rfl)) (by unfold Func.isWrapper; rw [if_neg (of_decide_eq_false (by kernel_rfl))]; exact ⟨rfl, rfl⟩)
    (fun os started H enc _ => lifted8 os started H enc)
end
end Go.Proofs.Ytiodcjbpfhfmbaa
