/- Chapter 48: a fault that latches counts from the tick in which it is present on, until a tick in which it is not present and Ack is true; others count only while they are present. Conditions: none. -/
import Derived.Test.YtiodcjbpfhfmbaaFlt9
import Derived.Test.YtiodcjbpfhfmbaaRows
import Derived.ProofKit
namespace Go.Proofs.Ytiodcjbpfhfmbaa
open Go Go.Proofs.Ytiodcjbpfhfmbaa.AI Go.Proofs Go.Proofs.Ytiodcjbpfhfmbaa.Img Go.ChangeShapes Go.WideShapes Go.ChangeAt Go.RowKit
noncomputable section
set_option maxRecDepth 100000

theorem ldU {f : Nat → Nat → AV} {i : Nat} {b : Bool} : TD.val ⟨.bool, 1, 1, [.bit false]⟩ (updF f i 0 (AV.bit b).cells i) 0 = .bit b := by
  show updF f i 0 [.bit b] i 0 = _
  unfold updF
  rw [show Nat.beq i i = true by simp]; rfl
def heldN (now : Nat → Bool) (ack : Bool) (h l : Nat → Bool) (j : Nat) : Bool := if now j = true then l j else if ack = true then false else h j
theorem law6 (avs : List AV) (H : ArgAll E0 9 [22, 44] avs) : FnOK Try.prog TE 6 avs (.bit true) := by
  obtain ⟨l1, l2, h1, h2, rfl⟩ := argAll2 H
  obtain ⟨n, f, rfl, hf⟩ := openRul h1
  obtain ⟨m, g, rfl, hg⟩ := openTk h2
  show FnOK Try.prog TE 6 [.sl 2 n f, .sl 3 m g] (.bit true)
  refine FnOK.args (m := [.sl 2 n (rulF (vI f) (vL f)), .sl 3 m (tkF (vI g) (vP g) (vQ g))]) ?_ ⟨le2_sl hf.le1, le2_sl (hg _), trivial⟩
  generalize vI f = r
  generalize vL f = l
  generalize vI g = w
  generalize vP g = pa
  generalize vQ g = ps
  refine fn_ofF tabsOK (specOK_cons ok10 (specOK_cons ok12 (specOK_cons ok18b (specOK_cons ok21 (specOK_cons ok22 (specOK_cons ok23 (specOK_cons ok24 specOK_nil))))))) mixed Try.func6 (by kernel_rfl) ?_
  refine Chk.mk isR_mk ?_
  refine Brn.mk (fun _ => AVle.bit rfl) (fun q => ?_)
  obtain ⟨hn, hm, hr⟩ := valid_ok (n := n) (m := m) (r := r) q
  obtain ⟨n1, n32, hrr⟩ := rchk_zero hr
  refine Chk.mk ⟨isR_mk, by omega⟩ ?_
  refine Brn.mk (fun q => absurd hr (ndT q)) (fun _ => ?_)
  refine Chk.mk ⟨by omega, by omega, by omega, by omega⟩ ?_
  refine LoopOK.mk ⟨{ p : Nat × FS × (Nat → Bool) // p.1 ≤ m ∧ p.2.1.ok ∧ ∀ j, j < n → p.2.1.y j = p.2.2 j ∧ (p.2.2 j = true → l j = true) }, fun p => mkSt [(0, .sl 2 n (rulF r l)), (1, .sl 3 m (tkF w pa ps)), (5, .loc 5 0), (7, .own 100 n), (8, .int .i64 p.1.1)]
    [(5, ⟨28, 5, 1, fun _ j => nth (p.1.2.1.l n) j, 0, true⟩), (100, ⟨4, 1, n, bitF p.1.2.2, 0, false⟩)], fun p => m - p.1.1, ⟨⟨(0, FS.zero, fun _ => false), Nat.zero_le _, FS.zero_ok, fun _ _ => ⟨rfl, fun h => by cases h⟩⟩, ?_⟩, ?_⟩
  · refine wk_of [(5, some 5), (100, some 31)] rfl ⟨⟨rfl, rfl⟩, ⟨rfl, rfl⟩, rfl, rfl, ⟨rfl, rfl⟩, trivial⟩ ⟨RowLe.fin rfl rfl rfl rfl rfl ⟨trivial, ⟨⟨⟨⟨⟨trivial, ?_⟩, ?_⟩, ?_⟩, ?_⟩, ?_⟩⟩, ⟨rfl, rfl, rfl, rfl, rfl, fun a b _ hb => Or.inr ?_⟩, trivial⟩
    · exact renS (zN0 hr) rfl
    · exact renS (zN0 hr) rfl
    · exact renI rfl
    · exact renI rfl
    · exact renS rfl rfl
    · have hb : b < 1 := hb
      have : b = 0 := by omega
      subst this; rfl
  rintro ⟨⟨k, s, hd⟩, hk, hs, hI⟩
  have hI : ∀ j, j < n → s.y j = hd j ∧ (hd j = true → l j = true) := hI
  have hk : k ≤ m := hk
  have hs : s.ok := hs
  have hsk := hs.k
  refine Brn.mk (fun h1 => ?_) (fun _ => AVle.bit rfl)
  have h1 : (k : Int) < m := of_decide_eq_true h1
  refine Chk.mk ⟨Int.natCast_nonneg k, h1⟩ ?_
  refine Chk.mk ⟨Int.natCast_nonneg n, (show (n : Int) ≤ 1000 by omega)⟩ ?_
  refine Chk.mk ⟨⟨isR_mk, by omega⟩, stOK_mk (by omega) (by omega) (show s.k ≤ 1000 by omega), isB_mk, (show n ≤ 1000 by omega)⟩ ?_
  have e0 := FS.stp0 (n := n) hr hs
  have ok' := FS.next_ok (n := n) (l := l) (now := bw (w k)) (ack := pa k) (still := ps k) hr hs
  refine Brn.mk (fun q => absurd e0 (ndT q)) (fun _ => ?_)
  refine Chk.mk ⟨isB_mk, isB_mk, isE_mk⟩ ?_
  have fit : (decide (((zN (stpE n r n n s.re s.tk s.k n) n : Nat) : Int) = n) && decide (((zN (stpE n r n n s.re s.tk s.k n) n : Nat) : Int) = n)) = true := by rw [zN0 e0]; simp
  refine Brn.mk (fun q => absurd fit (by rw [show (decide (((zN (stpE n r n n s.re s.tk s.k n) n : Nat) : Int) = n) && decide (((zN (stpE n r n n s.re s.tk s.k n) n : Nat) : Int) = n)) = false from Bool.not_eq_true' _ ▸ q]; decide)) (fun _ => ?_)
  obtain ⟨t, ht⟩ : ∃ t, t = s.next n r l (bw (w k)) (pa k) (ps k) := ⟨_, rfl⟩
  rw [← ht] at ok'
  refine LoopOK.mk ⟨{ i : Nat // i ≤ n }, fun i => mkSt [(0, .sl 2 n (rulF r l)), (1, .sl 3 m (tkF w pa ps)), (5, .loc 5 0), (7, .own 100 n), (8, .int .i64 k), (9, .loc 9 0), (10, .loc 10 0), (12, .int .i64 i.1)]
    [(5, ⟨28, 5, 1, fun _ j => nth (s.l n) j, 0, true⟩), (9, ⟨39, 3, 1, fun _ j => nth [.sl 1 n (bitF (bw (w k))), .bit (pa k), .bit (ps k)] j, 0, true⟩), (10, ⟨28, 5, 1, fun _ j => nth (t.l n) j, 0, true⟩), (100, ⟨4, 1, n, bitF (mixF (heldN (bw (w k)) (pa k) hd l) hd i.1), 0, false⟩)], fun i => n - i.1, ⟨⟨0, Nat.zero_le _⟩, ?_⟩, ?_⟩
  · refine wk_of [(5, some 5), (9, some 9), (10, some 10), (100, some 100)] rfl ⟨⟨rfl, rfl⟩, ⟨rfl, rfl⟩, rfl, rfl, ⟨rfl, rfl⟩, rfl, rfl, ⟨rfl, rfl⟩, trivial⟩ ⟨RowLe.fin rfl rfl rfl rfl rfl ?_, RowLe.fin rfl rfl rfl rfl rfl ?_, RowLe.fin rfl rfl rfl rfl rfl ⟨trivial, ⟨⟨⟨⟨⟨trivial, ?_⟩, ?_⟩, ?_⟩, ?_⟩, ?_⟩⟩, ⟨rfl, rfl, rfl, rfl, rfl, fun a b _ _ => Or.inr ?_⟩, trivial⟩
    · (repeat' first | exact trivial | exact ⟨by kernel_rfl, by kernel_rfl⟩ | exact Or.inr (by kernel_rfl) | (show _ = _; kernel_rfl) | refine ⟨?_, ?_⟩)
    · (repeat' first | exact trivial | exact ⟨by kernel_rfl, by kernel_rfl⟩ | exact Or.inr (by kernel_rfl) | (show _ = _; kernel_rfl) | refine ⟨?_, ?_⟩)
    · subst ht; exact renS (zN0 e0) rfl
    · subst ht; exact renS (zN0 e0) rfl
    · subst ht; exact renI (zI0 e0)
    · subst ht; exact renI (zI0 e0)
    · subst ht; exact renS (zN0 e0) rfl
    · show AV.bit (mixF (heldN (bw (w k)) (pa k) hd l) hd 0 a) = .bit (hd a)
      rw [mixF, if_neg (by omega)]
  rintro ⟨i, hi⟩
  have hi : i ≤ n := hi
  have tx : ∀ j, t.x j = bw (w k) j := fun j => by subst ht; rfl
  have ty : ∀ j, t.y j = hldF (bw (w k)) (pa k) s.y l j := fun j => by subst ht; rfl
  have tc : ∀ j, j < n → t.c j = (bw (w k) j || heldN (bw (w k)) (pa k) hd l j) := fun j hj => by
    rw [FS.c, tx, ty, hldF, heldN, (hI j hj).1]
    cases bw (w k) j with
    | true => rfl
    | false => rfl
  have nI : ∀ j, j < n → t.y j = heldN (bw (w k)) (pa k) hd l j ∧ (heldN (bw (w k)) (pa k) hd l j = true → l j = true) := fun j hj => by
    obtain ⟨a, b⟩ := hI j hj
    rw [ty, hldF, heldN, a]
    by_cases h : bw (w k) j = true
    · rw [if_pos h, if_pos h]
      refine ⟨?_, id⟩
      cases hh : hd j with
      | true => rw [b hh]; rfl
      | false => rfl
    · rw [if_neg h, if_neg h]
      refine ⟨rfl, fun q => ?_⟩
      split at q
      · cases q
      · exact b q
  refine Brn.mk (fun h2 => ?_) (fun h2 => ?_)
  · have h2 : (i : Int) < n := of_decide_eq_true h2
    have ix : (0 : Int) ≤ (i : Int) ∧ (i : Int) < (n : Int) := ⟨Int.natCast_nonneg i, h2⟩
    have tci := tc i (by omega)
    refine Chk.mk ix ?_
    refine Brn.mk (fun g1 => ?_) (fun g1 => ?_)
    · have g1 : bw (w k) i = true := g1
      have hF : heldN (bw (w k)) (pa k) hd l i = l i := if_pos g1
      refine Chk.mk ix (Chk.mk ix ?_)
      refine Chk.mk ⟨⟨isB_mk, isB_mk, isE_mk⟩, ix, h2⟩ (Chk.mk ix ?_)
      refine Brn.mk (fun _ => ?_) (fun q => absurd g1 (by rw [show bw (w k) i = false from q]; decide))
      refine Brn.mk (fun q => absurd (show (!(t.c i == true)) = true from q) (by rw [tci, g1, Bool.true_or]; decide)) (fun _ => ?_)
      refine ⟨⟨i + 1, by omega⟩, by show n - (i + 1) < n - i; omega, ?_⟩
      refine wk_of [(5, some 5), (9, some 9), (10, some 10), (100, some 100)] rfl ⟨⟨rfl, rfl⟩, ⟨rfl, rfl⟩, rfl, rfl, ⟨rfl, rfl⟩, rfl, rfl, ⟨wrS (i := i) (by omega), rfl⟩, trivial⟩ ⟨RowLe.fin rfl rfl rfl rfl rfl ?_, RowLe.fin rfl rfl rfl rfl rfl ?_, RowLe.fin rfl rfl rfl rfl rfl ?_, RowLe.upd (i := i) (fun k' => .bit (mixF (heldN (bw (w k)) (pa k) hd l) hd (i + 1) k')) rfl rfl rfl (fun k' _ hk' => congrArg AV.bit (mix_ne hk')) (congrArg AV.bit (by rw [mix_at, hF]; rfl)), trivial⟩
      all_goals (repeat' first | exact trivial | exact ⟨by kernel_rfl, by kernel_rfl⟩ | exact Or.inr (by kernel_rfl) | (show _ = _; kernel_rfl) | refine ⟨?_, ?_⟩)
    · have g1 : bw (w k) i = false := g1
      refine Brn.mk (fun g2 => ?_) (fun g2 => ?_)
      · have g2 : pa k = true := g2
        have hF : heldN (bw (w k)) (pa k) hd l i = false := by rw [heldN, if_neg (by rw [g1]; decide), if_pos g2]
        refine Chk.mk ix ?_
        refine Chk.mk ⟨⟨isB_mk, isB_mk, isE_mk⟩, ix, h2⟩ (Chk.mk ix ?_)
        refine Brn.mk (fun q => absurd (show bw (w k) i = true from q) (by rw [g1]; decide)) (fun _ => ?_)
        refine Chk.mk ix ?_
        have hv : asB (updF (bitF (mixF (heldN (bw (w k)) (pa k) hd l) hd i)) i 0 [AV.bit false] i 0) = false := by unfold updF; rw [show Nat.beq i i = true by simp]; rfl
        have hvv : updF (bitF (mixF (heldN (bw (w k)) (pa k) hd l) hd i)) i 0 [AV.bit false] i 0 = .bit false := by unfold updF; rw [show Nat.beq i i = true by simp]; rfl
        conv =>
          whnf
          arg 2
          rw [ldU]
        refine Brn.mk (fun q => absurd (show (!(t.c i == false)) = true from q) (by rw [tci, g1, hF]; decide)) (fun _ => ?_)
        · refine ⟨⟨i + 1, by omega⟩, by show n - (i + 1) < n - i; omega, ?_⟩
          refine wk_of [(5, some 5), (9, some 9), (10, some 10), (100, some 100)] rfl ⟨⟨rfl, rfl⟩, ⟨rfl, rfl⟩, rfl, rfl, ⟨rfl, rfl⟩, rfl, rfl, ⟨wrS (i := i) (by omega), rfl⟩, trivial⟩ ⟨RowLe.fin rfl rfl rfl rfl rfl ?_, RowLe.fin rfl rfl rfl rfl rfl ?_, RowLe.fin rfl rfl rfl rfl rfl ?_, RowLe.upd (i := i) (fun k' => .bit (mixF (heldN (bw (w k)) (pa k) hd l) hd (i + 1) k')) rfl rfl rfl (fun k' _ hk' => congrArg AV.bit (mix_ne hk')) (congrArg AV.bit (by rw [mix_at, hF])), trivial⟩
          all_goals (repeat' first | exact trivial | exact ⟨by kernel_rfl, by kernel_rfl⟩ | exact Or.inr (by kernel_rfl) | (show _ = _; kernel_rfl) | refine ⟨?_, ?_⟩)
      · have g2 : pa k = false := g2
        have hF : heldN (bw (w k)) (pa k) hd l i = hd i := by rw [heldN, if_neg (by rw [g1]; decide), if_neg (by rw [g2]; decide)]
        refine Chk.mk ⟨⟨isB_mk, isB_mk, isE_mk⟩, ix, h2⟩ (Chk.mk ix ?_)
        refine Brn.mk (fun q => absurd (show bw (w k) i = true from q) (by rw [g1]; decide)) (fun _ => ?_)
        refine Chk.mk ix ?_
        refine Brn.mk (fun q => absurd (show (!(t.c i == mixF (heldN (bw (w k)) (pa k) hd l) hd i i)) = true from q) (by rw [mix_i, tci, g1, hF, Bool.false_or, beq_self_eq_true]; decide)) (fun _ => ?_)
        refine ⟨⟨i + 1, by omega⟩, by show n - (i + 1) < n - i; omega, ?_⟩
        refine wk_of [(5, some 5), (9, some 9), (10, some 10), (100, some 100)] rfl ⟨⟨rfl, rfl⟩, ⟨rfl, rfl⟩, rfl, rfl, ⟨rfl, rfl⟩, rfl, rfl, ⟨wrS (i := i) (by omega), rfl⟩, trivial⟩ ⟨RowLe.fin rfl rfl rfl rfl rfl ?_, RowLe.fin rfl rfl rfl rfl rfl ?_, RowLe.fin rfl rfl rfl rfl rfl ?_, ⟨rfl, rfl, rfl, rfl, rfl, fun a b _ _ => Or.inr (congrArg AV.bit (congrFun (mix_all hF).symm a))⟩, trivial⟩
        all_goals (repeat' first | exact trivial | exact ⟨by kernel_rfl, by kernel_rfl⟩ | exact Or.inr (by kernel_rfl) | (show _ = _; kernel_rfl) | refine ⟨?_, ?_⟩)
  · have h2 : ¬ (i : Int) < n := of_decide_eq_false h2
    have hin : i = n := by omega
    refine ⟨⟨(k + 1, t, heldN (bw (w k)) (pa k) hd l), by show k + 1 ≤ m; omega, ok', nI⟩, by show m - (k + 1) < m - k; omega, ?_⟩
    refine wk_of [(5, some 5), (100, some 100)] rfl ⟨⟨rfl, rfl⟩, ⟨rfl, rfl⟩, rfl, rfl, ⟨wrS (i := k) (by omega), rfl⟩, trivial⟩ ⟨RowLe.fin rfl rfl rfl rfl rfl ?_, ⟨rfl, rfl, rfl, rfl, rfl, fun a b ha _ => Or.inr ?_⟩, trivial⟩
    · (repeat' first | exact trivial | exact ⟨by kernel_rfl, by kernel_rfl⟩ | exact Or.inr (by kernel_rfl) | (show _ = _; kernel_rfl) | refine ⟨?_, ?_⟩)
    · have ha : a < n := ha
      show AV.bit (heldN (bw (w k)) (pa k) hd l a) = .bit (mixF (heldN (bw (w k)) (pa k) hd l) hd i a)
      rw [mixF, if_pos (by omega)]

theorem lifted6 (os : Os) (started : os.Started) (H : Type) (enc : TypeId × Value → H) :
    ReturnsInHanded {} Try.checked os 6 .any (Rows.faultsLatchSpec.pre6 enc Try.prog Try.f6 Rows.faultsLatchRow.domain false) (Rows.faultsLatchSpec.post enc Try.prog Try.f6 false true false false) := by
  refine returnsInHanded_of_change (C := Try.checked) own0 started (by kernel_rfl) Try.func6
    (ChangeSpec.witness6 (enc := enc) (C := Try.checked) false ⟨#[], #[.slice none 0 0, .slice none 0 0], []⟩ 8 (by kernel_rfl) (by kernel_rfl) (by kernel_rfl) (by kernel_rfl)) ?_
  intro W base args ds gs before hval hW _ _
  exact law_contract tabE0 (d := 9) (tb := 4) [22, 44] (by kernel_rfl) (by kernel_rfl) (by kernel_rfl) rfl laidOut0 (by kernel_rfl) (by kernel_rfl)
    (fun H ds h => match ds, h with | [_, _], _ => rfl) law6 hval hW

theorem FaultsLatch_proved : Rows.FaultsLatchSaid :=
  OpenClaim.holds_of_wide (p := Try.pinned) (s := Rows.faultsLatchSpec) (c := Rows.faultsLatchRow) 6 Try.f6 rfl rfl rfl rfl rfl rfl rfl ⟨rfl, rfl, rfl, rfl, rfl⟩ rfl rfl rfl rfl rfl (by kernel_rfl) Try.func6 (by kernel_rfl)
    (of_decide_eq_true (by kernel_rfl)) (by unfold Func.isWrapper; rw [if_neg (of_decide_eq_false (by kernel_rfl))]; exact ⟨rfl, rfl⟩)
    (fun os started H enc _ => lifted6 os started H enc)
end
end Go.Proofs.Ytiodcjbpfhfmbaa
