/- Chapter 48: as long as a serious fault counts, the reaction never falls; it is at least that of every fault that is present; without any fault that counts it is 0. Conditions: none. -/
import Derived.Test.YtiodcjbpfhfmbaaFlt9
import Derived.Test.YtiodcjbpfhfmbaaRows
import Derived.ProofKit
namespace Go.Proofs.Ytiodcjbpfhfmbaa
open Go Go.Proofs.Ytiodcjbpfhfmbaa.AI Go.Proofs Go.Proofs.Ytiodcjbpfhfmbaa.Img Go.ChangeShapes Go.WideShapes Go.ChangeAt Go.RowKit
noncomputable section
set_option maxRecDepth 100000

theorem law5 (avs : List AV) (H : ArgAll E0 9 [22, 44] avs) : FnOK Try.prog TE 5 avs (.bit true) := by
  obtain ⟨l1, l2, h1, h2, rfl⟩ := argAll2 H
  obtain ⟨n, f, rfl, hf⟩ := openRul h1
  obtain ⟨m, g, rfl, hg⟩ := openTk h2
  show FnOK Try.prog TE 5 [.sl 2 n f, .sl 3 m g] (.bit true)
  refine FnOK.args (m := [.sl 2 n (rulF (vI f) (vL f)), .sl 3 m (tkF (vI g) (vP g) (vQ g))]) ?_ ⟨le2_sl hf.le1, le2_sl (hg _), trivial⟩
  generalize vI f = r
  generalize vL f = l
  generalize vI g = w
  generalize vP g = pa
  generalize vQ g = ps
  refine fn_ofF tabsOK (specOK_cons ok10 (specOK_cons ok12 (specOK_cons ok18b (specOK_cons ok21 (specOK_cons ok22 (specOK_cons ok23 (specOK_cons ok24 specOK_nil))))))) mixed Try.func5 (by kernel_rfl) ?_
  refine Chk.mk isR_mk ?_
  refine Brn.mk (fun _ => AVle.bit rfl) (fun q => ?_)
  obtain ⟨hn, hm, hr⟩ := valid_ok (n := n) (m := m) (r := r) q
  obtain ⟨n1, n32, hrr⟩ := rchk_zero hr
  refine Chk.mk ⟨isR_mk, by omega⟩ ?_
  refine Brn.mk (fun q => absurd hr (ndT q)) (fun _ => ?_)
  refine LoopOK.mk ⟨{ p : Nat × FS // p.1 ≤ m ∧ p.2.ok }, fun p => mkSt [(0, .sl 2 n (rulF r l)), (1, .sl 3 m (tkF w pa ps)), (5, .loc 5 0), (7, .int .i64 p.1.1)]
    [(5, ⟨28, 5, 1, fun _ j => nth (p.1.2.l n) j, 0, true⟩)], fun p => m - p.1.1, ⟨⟨(0, FS.zero), Nat.zero_le _, FS.zero_ok⟩, ?_⟩, ?_⟩
  · refine wk_of [(5, some 5)] rfl ⟨⟨rfl, rfl⟩, ⟨rfl, rfl⟩, rfl, ⟨rfl, rfl⟩, trivial⟩ ⟨RowLe.fin rfl rfl rfl rfl rfl ⟨trivial, ⟨⟨⟨⟨⟨trivial, ?_⟩, ?_⟩, ?_⟩, ?_⟩, ?_⟩⟩, trivial⟩
    · exact renS (zN0 hr) rfl
    · exact renS (zN0 hr) rfl
    · exact renI rfl
    · exact renI rfl
    · exact renS rfl rfl
  rintro ⟨⟨k, s⟩, hk, hs⟩
  have hk : k ≤ m := hk
  have hs : s.ok := hs
  have hsk := hs.k
  refine Brn.mk (fun h1 => ?_) (fun _ => AVle.bit rfl)
  have h1 : (k : Int) < m := of_decide_eq_true h1
  refine Chk.mk ⟨Int.natCast_nonneg k, h1⟩ ?_
  refine Chk.mk ⟨Int.natCast_nonneg n, (show (n : Int) ≤ 1000 by omega)⟩ ?_
  refine Chk.mk ⟨⟨isR_mk, by omega⟩, stOK_mk (by omega) (by omega) (show s.k ≤ 1000 by omega), isB_mk, (show n ≤ 1000 by omega)⟩ ?_
  have e0 := FS.stp0 (n := n) hr hs
  have ok' := FS.next_ok (n := n) (l := l) (now := bw (w k)) (ack := pa k) (still := ps k) hr hs
  refine Brn.mk (fun q => absurd e0 (ndT q)) (fun _ => ?_)
  refine Chk.mk ⟨isB_mk, isB_mk, isE_mk⟩ ?_
  have fit : (decide (((zN (stpE n r n n s.re s.tk s.k n) n : Nat) : Int) = n) && decide (((zN (stpE n r n n s.re s.tk s.k n) n : Nat) : Int) = n)) = true := by rw [zN0 e0]; simp
  refine Brn.mk (fun q => absurd fit (by rw [show (decide (((zN (stpE n r n n s.re s.tk s.k n) n : Nat) : Int) = n) && decide (((zN (stpE n r n n s.re s.tk s.k n) n : Nat) : Int) = n)) = false from Bool.not_eq_true' _ ▸ q]; decide)) (fun _ => ?_)
  obtain ⟨t, ht⟩ : ∃ t, t = s.next n r l (bw (w k)) (pa k) (ps k) := ⟨_, rfl⟩
  rw [← ht] at ok'
  refine LoopOK.mk ⟨{ z : Nat × Bool × Bool // z.1 ≤ n ∧ z.2.1 = anyTo (fun j => t.c j && decide (2 ≤ r j)) z.1 ∧ z.2.2 = anyTo t.c z.1 }, fun z => mkSt [(0, .sl 2 n (rulF r l)), (1, .sl 3 m (tkF w pa ps)), (5, .loc 5 0), (7, .int .i64 k), (8, .loc 8 0), (9, .loc 9 0), (11, .bit z.1.2.1), (12, .bit z.1.2.2), (13, .int .i64 z.1.1)]
    [(5, ⟨28, 5, 1, fun _ j => nth (s.l n) j, 0, true⟩), (8, ⟨39, 3, 1, fun _ j => nth [.sl 1 n (bitF (bw (w k))), .bit (pa k), .bit (ps k)] j, 0, true⟩), (9, ⟨28, 5, 1, fun _ j => nth (t.l n) j, 0, true⟩)], fun z => n - z.1.1, ⟨⟨(0, false, false), Nat.zero_le _, rfl, rfl⟩, ?_⟩, ?_⟩
  · refine wk_of [(5, some 5), (8, some 8), (9, some 9)] rfl ⟨⟨rfl, rfl⟩, ⟨rfl, rfl⟩, rfl, ⟨rfl, rfl⟩, rfl, rfl, ⟨rfl, rfl⟩, ⟨rfl, rfl⟩, ⟨rfl, rfl⟩, trivial⟩ ⟨RowLe.fin rfl rfl rfl rfl rfl ?_, RowLe.fin rfl rfl rfl rfl rfl ?_, RowLe.fin rfl rfl rfl rfl rfl ⟨trivial, ⟨⟨⟨⟨⟨trivial, ?_⟩, ?_⟩, ?_⟩, ?_⟩, ?_⟩⟩, trivial⟩
    · (repeat' first | exact trivial | exact ⟨by kernel_rfl, by kernel_rfl⟩ | exact Or.inr (by kernel_rfl) | (show _ = _; kernel_rfl) | refine ⟨?_, ?_⟩)
    · (repeat' first | exact trivial | exact ⟨by kernel_rfl, by kernel_rfl⟩ | exact Or.inr (by kernel_rfl) | (show _ = _; kernel_rfl) | refine ⟨?_, ?_⟩)
    · subst ht; exact renS (zN0 e0) rfl
    · subst ht; exact renS (zN0 e0) rfl
    · subst ht; exact renI (zI0 e0)
    · subst ht; exact renI (zI0 e0)
    · subst ht; exact renS (zN0 e0) rfl
  rintro ⟨⟨i, sb, mb⟩, hi, hsb, hmb⟩
  have hi : i ≤ n := hi
  have hsb : sb = anyTo (fun j => t.c j && decide (2 ≤ r j)) i := hsb
  have hmb : mb = anyTo t.c i := hmb
  have w4 := wst_le (c := t.c) hrr
  have tre : t.re = rea (wst r t.c n) s.re (ps k) := by subst ht; rfl
  have tx : ∀ j, t.x j = bw (w k) j := fun j => by subst ht; rfl
  refine Brn.mk (fun h2 => ?_) (fun h2 => ?_)
  · have h2 : (i : Int) < n := of_decide_eq_true h2
    have ix : (0 : Int) ≤ (i : Int) ∧ (i : Int) < (n : Int) := ⟨Int.natCast_nonneg i, h2⟩
    have ge : bw (w k) i = true → ¬ t.re < r i := fun hb => by
      have := wst_ge (r := r) (c := t.c) (n := n) (i := i) (by omega) (by rw [FS.c, tx, hb]; rfl)
      have := rea_ge (re := s.re) (st := ps k) w4
      omega
    refine Brn.mk (fun g1 => ?_) (fun g1 => ?_)
    · have g1 : sb = true := g1
      refine Brn.mk (fun g4 => ?_) (fun g4 => ?_)
      · have g4 : mb = true := g4
        refine Chk.mk ix ?_
        refine Brn.mk (fun g5 => ?_) (fun g5 => ?_)
        · refine Chk.mk ix ?_
          refine Brn.mk (fun g6 => absurd (of_decide_eq_true g6) (ge g5)) (fun _ => ?_)
          refine ⟨⟨(i + 1, true, true), by show i + 1 ≤ n; omega, by show true = (anyTo (fun j => t.c j && decide (2 ≤ r j)) i || (t.c i && decide (2 ≤ r i))); rw [← hsb, g1]; rfl, by show true = (anyTo t.c i || t.c i); rw [← hmb, g4]; rfl⟩, by show n - (i + 1) < n - i; omega, ?_⟩
          refine wk_of [(5, some 5), (8, some 8), (9, some 9)] rfl ⟨⟨rfl, rfl⟩, ⟨rfl, rfl⟩, rfl, ⟨rfl, rfl⟩, rfl, rfl, ⟨rfl, rfl⟩, ⟨rfl, rfl⟩, ⟨wrS (i := i) (by omega), rfl⟩, trivial⟩ ⟨RowLe.fin rfl rfl rfl rfl rfl ?_, RowLe.fin rfl rfl rfl rfl rfl ?_, RowLe.fin rfl rfl rfl rfl rfl ?_, trivial⟩
          all_goals (repeat' first | exact trivial | exact ⟨by kernel_rfl, by kernel_rfl⟩ | exact Or.inr (by kernel_rfl) | (show _ = _; kernel_rfl) | refine ⟨?_, ?_⟩)
        · refine ⟨⟨(i + 1, true, true), by show i + 1 ≤ n; omega, by show true = (anyTo (fun j => t.c j && decide (2 ≤ r j)) i || (t.c i && decide (2 ≤ r i))); rw [← hsb, g1]; rfl, by show true = (anyTo t.c i || t.c i); rw [← hmb, g4]; rfl⟩, by show n - (i + 1) < n - i; omega, ?_⟩
          refine wk_of [(5, some 5), (8, some 8), (9, some 9)] rfl ⟨⟨rfl, rfl⟩, ⟨rfl, rfl⟩, rfl, ⟨rfl, rfl⟩, rfl, rfl, ⟨rfl, rfl⟩, ⟨rfl, rfl⟩, ⟨wrS (i := i) (by omega), rfl⟩, trivial⟩ ⟨RowLe.fin rfl rfl rfl rfl rfl ?_, RowLe.fin rfl rfl rfl rfl rfl ?_, RowLe.fin rfl rfl rfl rfl rfl ?_, trivial⟩
          all_goals (repeat' first | exact trivial | exact ⟨by kernel_rfl, by kernel_rfl⟩ | exact Or.inr (by kernel_rfl) | (show _ = _; kernel_rfl) | refine ⟨?_, ?_⟩)
      · have g4 : mb = false := g4
        refine Chk.mk ⟨⟨isB_mk, isB_mk, isE_mk⟩, ix, h2⟩ ?_
        refine Chk.mk ix ?_
        refine Brn.mk (fun g5 => ?_) (fun g5 => ?_)
        · refine Chk.mk ix ?_
          refine Brn.mk (fun g6 => absurd (of_decide_eq_true g6) (ge g5)) (fun _ => ?_)
          refine ⟨⟨(i + 1, true, t.c i), by show i + 1 ≤ n; omega, by show true = (anyTo (fun j => t.c j && decide (2 ≤ r j)) i || (t.c i && decide (2 ≤ r i))); rw [← hsb, g1]; rfl, by show t.c i = (anyTo t.c i || t.c i); rw [← hmb, g4]; rfl⟩, by show n - (i + 1) < n - i; omega, ?_⟩
          refine wk_of [(5, some 5), (8, some 8), (9, some 9)] rfl ⟨⟨rfl, rfl⟩, ⟨rfl, rfl⟩, rfl, ⟨rfl, rfl⟩, rfl, rfl, ⟨rfl, rfl⟩, ⟨rfl, rfl⟩, ⟨wrS (i := i) (by omega), rfl⟩, trivial⟩ ⟨RowLe.fin rfl rfl rfl rfl rfl ?_, RowLe.fin rfl rfl rfl rfl rfl ?_, RowLe.fin rfl rfl rfl rfl rfl ?_, trivial⟩
          all_goals (repeat' first | exact trivial | exact ⟨by kernel_rfl, by kernel_rfl⟩ | exact Or.inr (by kernel_rfl) | (show _ = _; kernel_rfl) | refine ⟨?_, ?_⟩)
        · refine ⟨⟨(i + 1, true, t.c i), by show i + 1 ≤ n; omega, by show true = (anyTo (fun j => t.c j && decide (2 ≤ r j)) i || (t.c i && decide (2 ≤ r i))); rw [← hsb, g1]; rfl, by show t.c i = (anyTo t.c i || t.c i); rw [← hmb, g4]; rfl⟩, by show n - (i + 1) < n - i; omega, ?_⟩
          refine wk_of [(5, some 5), (8, some 8), (9, some 9)] rfl ⟨⟨rfl, rfl⟩, ⟨rfl, rfl⟩, rfl, ⟨rfl, rfl⟩, rfl, rfl, ⟨rfl, rfl⟩, ⟨rfl, rfl⟩, ⟨wrS (i := i) (by omega), rfl⟩, trivial⟩ ⟨RowLe.fin rfl rfl rfl rfl rfl ?_, RowLe.fin rfl rfl rfl rfl rfl ?_, RowLe.fin rfl rfl rfl rfl rfl ?_, trivial⟩
          all_goals (repeat' first | exact trivial | exact ⟨by kernel_rfl, by kernel_rfl⟩ | exact Or.inr (by kernel_rfl) | (show _ = _; kernel_rfl) | refine ⟨?_, ?_⟩)
    · have g1 : sb = false := g1
      refine Chk.mk ⟨⟨isB_mk, isB_mk, isE_mk⟩, ix, h2⟩ ?_
      refine Brn.mk (fun g2 => ?_) (fun g2 => ?_)
      · have g2 : t.c i = true := g2
        refine Chk.mk ix ?_
        refine Brn.mk (fun g4 => ?_) (fun g4 => ?_)
        · have g4 : mb = true := g4
          refine Chk.mk ix ?_
          refine Brn.mk (fun g5 => ?_) (fun g5 => ?_)
          · refine Chk.mk ix ?_
            refine Brn.mk (fun g6 => absurd (of_decide_eq_true g6) (ge g5)) (fun _ => ?_)
            refine ⟨⟨(i + 1, decide (2 ≤ r i), true), by show i + 1 ≤ n; omega, by show decide (2 ≤ r i) = (anyTo (fun j => t.c j && decide (2 ≤ r j)) i || (t.c i && decide (2 ≤ r i))); rw [← hsb, g1, g2]; rfl, by show true = (anyTo t.c i || t.c i); rw [← hmb, g4]; rfl⟩, by show n - (i + 1) < n - i; omega, ?_⟩
            refine wk_of [(5, some 5), (8, some 8), (9, some 9)] rfl ⟨⟨rfl, rfl⟩, ⟨rfl, rfl⟩, rfl, ⟨rfl, rfl⟩, rfl, rfl, ⟨rfl, rfl⟩, ⟨rfl, rfl⟩, ⟨wrS (i := i) (by omega), rfl⟩, trivial⟩ ⟨RowLe.fin rfl rfl rfl rfl rfl ?_, RowLe.fin rfl rfl rfl rfl rfl ?_, RowLe.fin rfl rfl rfl rfl rfl ?_, trivial⟩
            all_goals (repeat' first | exact trivial | exact ⟨by kernel_rfl, by kernel_rfl⟩ | exact Or.inr (by kernel_rfl) | (show _ = _; kernel_rfl) | refine ⟨?_, ?_⟩)
          · refine ⟨⟨(i + 1, decide (2 ≤ r i), true), by show i + 1 ≤ n; omega, by show decide (2 ≤ r i) = (anyTo (fun j => t.c j && decide (2 ≤ r j)) i || (t.c i && decide (2 ≤ r i))); rw [← hsb, g1, g2]; rfl, by show true = (anyTo t.c i || t.c i); rw [← hmb, g4]; rfl⟩, by show n - (i + 1) < n - i; omega, ?_⟩
            refine wk_of [(5, some 5), (8, some 8), (9, some 9)] rfl ⟨⟨rfl, rfl⟩, ⟨rfl, rfl⟩, rfl, ⟨rfl, rfl⟩, rfl, rfl, ⟨rfl, rfl⟩, ⟨rfl, rfl⟩, ⟨wrS (i := i) (by omega), rfl⟩, trivial⟩ ⟨RowLe.fin rfl rfl rfl rfl rfl ?_, RowLe.fin rfl rfl rfl rfl rfl ?_, RowLe.fin rfl rfl rfl rfl rfl ?_, trivial⟩
            all_goals (repeat' first | exact trivial | exact ⟨by kernel_rfl, by kernel_rfl⟩ | exact Or.inr (by kernel_rfl) | (show _ = _; kernel_rfl) | refine ⟨?_, ?_⟩)
        · have g4 : mb = false := g4
          refine Chk.mk ⟨⟨isB_mk, isB_mk, isE_mk⟩, ix, h2⟩ ?_
          refine Chk.mk ix ?_
          refine Brn.mk (fun g5 => ?_) (fun g5 => ?_)
          · refine Chk.mk ix ?_
            refine Brn.mk (fun g6 => absurd (of_decide_eq_true g6) (ge g5)) (fun _ => ?_)
            refine ⟨⟨(i + 1, decide (2 ≤ r i), t.c i), by show i + 1 ≤ n; omega, by show decide (2 ≤ r i) = (anyTo (fun j => t.c j && decide (2 ≤ r j)) i || (t.c i && decide (2 ≤ r i))); rw [← hsb, g1, g2]; rfl, by show t.c i = (anyTo t.c i || t.c i); rw [← hmb, g4]; rfl⟩, by show n - (i + 1) < n - i; omega, ?_⟩
            refine wk_of [(5, some 5), (8, some 8), (9, some 9)] rfl ⟨⟨rfl, rfl⟩, ⟨rfl, rfl⟩, rfl, ⟨rfl, rfl⟩, rfl, rfl, ⟨rfl, rfl⟩, ⟨rfl, rfl⟩, ⟨wrS (i := i) (by omega), rfl⟩, trivial⟩ ⟨RowLe.fin rfl rfl rfl rfl rfl ?_, RowLe.fin rfl rfl rfl rfl rfl ?_, RowLe.fin rfl rfl rfl rfl rfl ?_, trivial⟩
            all_goals (repeat' first | exact trivial | exact ⟨by kernel_rfl, by kernel_rfl⟩ | exact Or.inr (by kernel_rfl) | (show _ = _; kernel_rfl) | refine ⟨?_, ?_⟩)
          · refine ⟨⟨(i + 1, decide (2 ≤ r i), t.c i), by show i + 1 ≤ n; omega, by show decide (2 ≤ r i) = (anyTo (fun j => t.c j && decide (2 ≤ r j)) i || (t.c i && decide (2 ≤ r i))); rw [← hsb, g1, g2]; rfl, by show t.c i = (anyTo t.c i || t.c i); rw [← hmb, g4]; rfl⟩, by show n - (i + 1) < n - i; omega, ?_⟩
            refine wk_of [(5, some 5), (8, some 8), (9, some 9)] rfl ⟨⟨rfl, rfl⟩, ⟨rfl, rfl⟩, rfl, ⟨rfl, rfl⟩, rfl, rfl, ⟨rfl, rfl⟩, ⟨rfl, rfl⟩, ⟨wrS (i := i) (by omega), rfl⟩, trivial⟩ ⟨RowLe.fin rfl rfl rfl rfl rfl ?_, RowLe.fin rfl rfl rfl rfl rfl ?_, RowLe.fin rfl rfl rfl rfl rfl ?_, trivial⟩
            all_goals (repeat' first | exact trivial | exact ⟨by kernel_rfl, by kernel_rfl⟩ | exact Or.inr (by kernel_rfl) | (show _ = _; kernel_rfl) | refine ⟨?_, ?_⟩)
      · have g2 : t.c i = false := g2
        refine Brn.mk (fun g4 => ?_) (fun g4 => ?_)
        · have g4 : mb = true := g4
          refine Chk.mk ix ?_
          refine Brn.mk (fun g5 => ?_) (fun g5 => ?_)
          · refine Chk.mk ix ?_
            refine Brn.mk (fun g6 => absurd (of_decide_eq_true g6) (ge g5)) (fun _ => ?_)
            refine ⟨⟨(i + 1, false, true), by show i + 1 ≤ n; omega, by show false = (anyTo (fun j => t.c j && decide (2 ≤ r j)) i || (t.c i && decide (2 ≤ r i))); rw [← hsb, g1, g2]; rfl, by show true = (anyTo t.c i || t.c i); rw [← hmb, g4]; rfl⟩, by show n - (i + 1) < n - i; omega, ?_⟩
            refine wk_of [(5, some 5), (8, some 8), (9, some 9)] rfl ⟨⟨rfl, rfl⟩, ⟨rfl, rfl⟩, rfl, ⟨rfl, rfl⟩, rfl, rfl, ⟨rfl, rfl⟩, ⟨rfl, rfl⟩, ⟨wrS (i := i) (by omega), rfl⟩, trivial⟩ ⟨RowLe.fin rfl rfl rfl rfl rfl ?_, RowLe.fin rfl rfl rfl rfl rfl ?_, RowLe.fin rfl rfl rfl rfl rfl ?_, trivial⟩
            all_goals (repeat' first | exact trivial | exact ⟨by kernel_rfl, by kernel_rfl⟩ | exact Or.inr (by kernel_rfl) | (show _ = _; kernel_rfl) | refine ⟨?_, ?_⟩)
          · refine ⟨⟨(i + 1, false, true), by show i + 1 ≤ n; omega, by show false = (anyTo (fun j => t.c j && decide (2 ≤ r j)) i || (t.c i && decide (2 ≤ r i))); rw [← hsb, g1, g2]; rfl, by show true = (anyTo t.c i || t.c i); rw [← hmb, g4]; rfl⟩, by show n - (i + 1) < n - i; omega, ?_⟩
            refine wk_of [(5, some 5), (8, some 8), (9, some 9)] rfl ⟨⟨rfl, rfl⟩, ⟨rfl, rfl⟩, rfl, ⟨rfl, rfl⟩, rfl, rfl, ⟨rfl, rfl⟩, ⟨rfl, rfl⟩, ⟨wrS (i := i) (by omega), rfl⟩, trivial⟩ ⟨RowLe.fin rfl rfl rfl rfl rfl ?_, RowLe.fin rfl rfl rfl rfl rfl ?_, RowLe.fin rfl rfl rfl rfl rfl ?_, trivial⟩
            all_goals (repeat' first | exact trivial | exact ⟨by kernel_rfl, by kernel_rfl⟩ | exact Or.inr (by kernel_rfl) | (show _ = _; kernel_rfl) | refine ⟨?_, ?_⟩)
        · have g4 : mb = false := g4
          refine Chk.mk ⟨⟨isB_mk, isB_mk, isE_mk⟩, ix, h2⟩ ?_
          refine Chk.mk ix ?_
          refine Brn.mk (fun g5 => ?_) (fun g5 => ?_)
          · refine Chk.mk ix ?_
            refine Brn.mk (fun g6 => absurd (of_decide_eq_true g6) (ge g5)) (fun _ => ?_)
            refine ⟨⟨(i + 1, false, t.c i), by show i + 1 ≤ n; omega, by show false = (anyTo (fun j => t.c j && decide (2 ≤ r j)) i || (t.c i && decide (2 ≤ r i))); rw [← hsb, g1, g2]; rfl, by show t.c i = (anyTo t.c i || t.c i); rw [← hmb, g4]; rfl⟩, by show n - (i + 1) < n - i; omega, ?_⟩
            refine wk_of [(5, some 5), (8, some 8), (9, some 9)] rfl ⟨⟨rfl, rfl⟩, ⟨rfl, rfl⟩, rfl, ⟨rfl, rfl⟩, rfl, rfl, ⟨rfl, rfl⟩, ⟨rfl, rfl⟩, ⟨wrS (i := i) (by omega), rfl⟩, trivial⟩ ⟨RowLe.fin rfl rfl rfl rfl rfl ?_, RowLe.fin rfl rfl rfl rfl rfl ?_, RowLe.fin rfl rfl rfl rfl rfl ?_, trivial⟩
            all_goals (repeat' first | exact trivial | exact ⟨by kernel_rfl, by kernel_rfl⟩ | exact Or.inr (by kernel_rfl) | (show _ = _; kernel_rfl) | refine ⟨?_, ?_⟩)
          · refine ⟨⟨(i + 1, false, t.c i), by show i + 1 ≤ n; omega, by show false = (anyTo (fun j => t.c j && decide (2 ≤ r j)) i || (t.c i && decide (2 ≤ r i))); rw [← hsb, g1, g2]; rfl, by show t.c i = (anyTo t.c i || t.c i); rw [← hmb, g4]; rfl⟩, by show n - (i + 1) < n - i; omega, ?_⟩
            refine wk_of [(5, some 5), (8, some 8), (9, some 9)] rfl ⟨⟨rfl, rfl⟩, ⟨rfl, rfl⟩, rfl, ⟨rfl, rfl⟩, rfl, rfl, ⟨rfl, rfl⟩, ⟨rfl, rfl⟩, ⟨wrS (i := i) (by omega), rfl⟩, trivial⟩ ⟨RowLe.fin rfl rfl rfl rfl rfl ?_, RowLe.fin rfl rfl rfl rfl rfl ?_, RowLe.fin rfl rfl rfl rfl rfl ?_, trivial⟩
            all_goals (repeat' first | exact trivial | exact ⟨by kernel_rfl, by kernel_rfl⟩ | exact Or.inr (by kernel_rfl) | (show _ = _; kernel_rfl) | refine ⟨?_, ?_⟩)
  · have h2 : ¬ (i : Int) < n := of_decide_eq_false h2
    have hin : i = n := by omega
    rw [hin] at hsb hmb
    have F1 : sb = true → 2 ≤ wst r t.c n := fun h => by
      rw [hsb] at h
      obtain ⟨j, hj, hp⟩ := anyTo_yes h
      simp only [Bool.and_eq_true, decide_eq_true_eq] at hp
      have := wst_ge (r := r) (c := t.c) hj hp.1
      omega
    have F2 : mb = false → t.re = 0 := fun h => by
      rw [hmb] at h
      rw [tre, wst_none (anyTo_no h)]; exact rea_c (by decide)
    have F3 : sb = false → ¬ 1 < t.re := fun h => by
      rw [hsb] at h
      have := wst_lt (r := r) (c := t.c) (anyTo_no h)
      rw [tre, rea_c (by omega)]; omega
    have F4 : sb = true → ¬ t.re < s.re := fun h => by
      have := F1 h
      rw [tre]; unfold rea; simp only []; split <;> split <;> omega
    have F5 : sb = true → ps k = true → t.re = 4 := fun h hp => by
      have := F1 h
      have := hs.re
      rw [tre, hp]; unfold rea; simp only [true_and]; split <;> split <;> omega
    have F6 : sb = true → mb = true := fun h => by
      rw [hsb] at h
      rw [hmb]
      obtain ⟨j, hj, hp⟩ := anyTo_yes h
      cases hb : anyTo t.c n with
      | true => rfl
      | false =>
        have := anyTo_no hb j hj
        rw [this] at hp; cases hp
    have nx : k + 1 ≤ m := by omega
    cases sb with
    | true =>
      cases mb with
      | false => exact absurd (F6 rfl) (by decide)
      | true =>
        repeat first
          | refine Brn.mk (fun h => absurd (show false = true from h) (by decide)) (fun _ => ?_)
          | refine Brn.mk (fun _ => ?_) (fun h => absurd (show true = false from h) (by decide))
          | refine Brn.mk (fun h => absurd (of_decide_eq_true h) (F4 rfl)) (fun _ => ?_)
        refine Brn.mk (fun gp => ?_) (fun gp => ?_)
        · have gp : ps k = true := gp
          refine Brn.mk (fun h => absurd (F5 rfl gp) (ndT h)) (fun _ => ?_)
          exact ⟨⟨(k + 1, t), nx, ok'⟩, (by show m - (k + 1) < m - k; omega), wk_of [(5, some 5)] rfl ⟨⟨rfl, rfl⟩, ⟨rfl, rfl⟩, rfl, ⟨wrS (i := k) (by omega), rfl⟩, trivial⟩ ⟨RowLe.fin rfl rfl rfl rfl rfl (by (repeat' first | exact trivial | exact ⟨by kernel_rfl, by kernel_rfl⟩ | exact Or.inr (by kernel_rfl) | (show _ = _; kernel_rfl) | refine ⟨?_, ?_⟩)), trivial⟩⟩
        · exact ⟨⟨(k + 1, t), nx, ok'⟩, (by show m - (k + 1) < m - k; omega), wk_of [(5, some 5)] rfl ⟨⟨rfl, rfl⟩, ⟨rfl, rfl⟩, rfl, ⟨wrS (i := k) (by omega), rfl⟩, trivial⟩ ⟨RowLe.fin rfl rfl rfl rfl rfl (by (repeat' first | exact trivial | exact ⟨by kernel_rfl, by kernel_rfl⟩ | exact Or.inr (by kernel_rfl) | (show _ = _; kernel_rfl) | refine ⟨?_, ?_⟩)), trivial⟩⟩
    | false =>
      cases mb with
      | true =>
        repeat first
          | refine Brn.mk (fun h => absurd (show false = true from h) (by decide)) (fun _ => ?_)
          | refine Brn.mk (fun _ => ?_) (fun h => absurd (show true = false from h) (by decide))
          | refine Brn.mk (fun h => absurd (of_decide_eq_true h) (F3 rfl)) (fun _ => ?_)
        exact ⟨⟨(k + 1, t), nx, ok'⟩, (by show m - (k + 1) < m - k; omega), wk_of [(5, some 5)] rfl ⟨⟨rfl, rfl⟩, ⟨rfl, rfl⟩, rfl, ⟨wrS (i := k) (by omega), rfl⟩, trivial⟩ ⟨RowLe.fin rfl rfl rfl rfl rfl (by (repeat' first | exact trivial | exact ⟨by kernel_rfl, by kernel_rfl⟩ | exact Or.inr (by kernel_rfl) | (show _ = _; kernel_rfl) | refine ⟨?_, ?_⟩)), trivial⟩⟩
      | false =>
        repeat first
          | refine Brn.mk (fun h => absurd (show false = true from h) (by decide)) (fun _ => ?_)
          | refine Brn.mk (fun _ => ?_) (fun h => absurd (show true = false from h) (by decide))
          | refine Brn.mk (fun h => absurd (F2 rfl) (ndT h)) (fun _ => ?_)
          | refine Brn.mk (fun h => absurd (of_decide_eq_true h) (F3 rfl)) (fun _ => ?_)
        exact ⟨⟨(k + 1, t), nx, ok'⟩, (by show m - (k + 1) < m - k; omega), wk_of [(5, some 5)] rfl ⟨⟨rfl, rfl⟩, ⟨rfl, rfl⟩, rfl, ⟨wrS (i := k) (by omega), rfl⟩, trivial⟩ ⟨RowLe.fin rfl rfl rfl rfl rfl (by (repeat' first | exact trivial | exact ⟨by kernel_rfl, by kernel_rfl⟩ | exact Or.inr (by kernel_rfl) | (show _ = _; kernel_rfl) | refine ⟨?_, ?_⟩)), trivial⟩⟩

theorem lifted5 (os : Os) (started : os.Started) (H : Type) (enc : TypeId × Value → H) :
    ReturnsInHanded {} Try.checked os 5 .any (Rows.faultsFirmSpec.pre6 enc Try.prog Try.f5 Rows.faultsFirmRow.domain false) (Rows.faultsFirmSpec.post enc Try.prog Try.f5 false true false false) := by
  refine returnsInHanded_of_change (C := Try.checked) own0 started (by kernel_rfl) Try.func5
    (ChangeSpec.witness6 (enc := enc) (C := Try.checked) false ⟨#[], #[.slice none 0 0, .slice none 0 0], []⟩ 8 (by kernel_rfl) (by kernel_rfl) (by kernel_rfl) (by kernel_rfl)) ?_
  intro W base args ds gs before hval hW _ _
  exact law_contract tabE0 (d := 9) (tb := 4) [22, 44] (by kernel_rfl) (by kernel_rfl) (by kernel_rfl) rfl laidOut0 (by kernel_rfl) (by kernel_rfl)
    (fun H ds h => match ds, h with | [_, _], _ => rfl) law5 hval hW

theorem FaultsFirm_proved : Rows.FaultsFirmSaid :=
  OpenClaim.holds_of_wide (p := Try.pinned) (s := Rows.faultsFirmSpec) (c := Rows.faultsFirmRow) 5 Try.f5 rfl rfl rfl rfl rfl rfl rfl ⟨rfl, rfl, rfl, rfl, rfl⟩ rfl rfl rfl rfl rfl (by kernel_rfl) Try.func5 (by kernel_rfl)
    (of_decide_eq_true (by kernel_rfl)) (by unfold Func.isWrapper; rw [if_neg (of_decide_eq_false (by kernel_rfl))]; exact ⟨rfl, rfl⟩)
    (fun os started H enc _ => lifted5 os started H enc)
end
end Go.Proofs.Ytiodcjbpfhfmbaa
