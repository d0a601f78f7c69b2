/- Chapter 30: without power and without shares of the ambient, the sum of the heats does not grow, and falls by less than the number of nodes. Conditions: none. -/
import Derived.Test.YtiofgjebbpnkiaaHetS
import Derived.Test.YtiofgjebbpnkiaaRows
import Derived.ProofKit
namespace Go.Proofs.Ytiofgjebbpnkiaa
open Go Go.Proofs.Ytiofgjebbpnkiaa.AI Go.Proofs Go.Proofs.Ytiofgjebbpnkiaa.Img Go.ChangeShapes Go.WideShapes Go.ChangeAt Go.RowKit
noncomputable section
set_option maxRecDepth 100000

set_option maxHeartbeats 1000000 in
theorem law7 (avs : List AV) (H : ArgAll E0 9 [25, 34] avs) : FnOK Try.prog TE 7 avs (.bit true) := by
  obtain ⟨l, m, hl, hm, rfl⟩ := argAll2 H
  obtain ⟨n, na, nl, gf, af, lf, rfl, h1, h2, h3⟩ := openC hl
  obtain ⟨hn, pn, hf, pf, amb, rfl, h4, h5, _⟩ := openCase hm
  show FnOK Try.prog TE 7 [.agg [.sl 1 n gf, .sl 1 na af, .sl 1 nl lf], .agg [.sl 1 hn hf, .sl 1 pn pf, .int .i64 amb]] (.bit true)
  refine FnOK.args ?_ (m := [.agg (cfgL n na nl (vI gf) (vI af) (vN lf) (vII lf)), .agg [.sl 1 hn fun i _ => .int .i64 (vI hf i), .sl 1 pn fun i _ => .int .i64 (vI pf i), .int .i64 amb]])
    ⟨.aggL ⟨ints_le1 rfl h1, ints_le1 rfl h2, h3.le1 rfl, trivial⟩, .aggL ⟨ints_le1 rfl h4, ints_le1 rfl h5, .refl, trivial⟩, trivial⟩
  generalize vI gf = g
  generalize vI af = am
  generalize vII lf = lk
  generalize vN lf = rl
  generalize vI hf = hs
  generalize vI pf = ps
  show FnOK Try.prog TE 7 [.agg [.sl 1 n fun i _ => .int .i64 (g i), .sl 1 na fun i _ => .int .i64 (am i), .sl 1 nl fun i _ => .sl 1 (rl i) fun j _ => .int .i64 (lk i j)], .agg [.sl 1 hn fun i _ => .int .i64 (hs i), .sl 1 pn fun i _ => .int .i64 (ps i), .int .i64 amb]] (.bit true)
  refine fn_ofF tabsOK (specOK_cons okAwake (specOK_cons okFits (specOK_cons okTick (specOK_cons okBClip specOK_nil)))) mixed Try.func7 (by kernel_rfl) ?_
  refine Chk.mk ⟨isI_mk, isI_mk, isV_mk⟩ ?_
  refine Brn.mk (fun _ => AVle.bit rfl) (fun q => ?_)
  have q : (!fitsB n na nl (hchk n na nl g am rl lk) hn pn) = false := q
  obtain ⟨q0, e1, e2⟩ := fits_of q
  subst e1 e2
  have qc := chk_cold q0
  have G := good_of qc
  have e : stepErr (hchk n n nl g (fun _ => 0) rl lk) n n n = 0 := by rw [stepErr, if_pos qc, if_pos ⟨rfl, rfl⟩]
  have eo : outN (stepErr (hchk n n nl g (fun _ => 0) rl lk) n n n) n = n := by rw [e, outN, if_pos rfl]
  have n8 := G.n8
  have hm : (0 : Int) ≤ n ∧ (n : Int) ≤ n ∧ ((8 : Nat) : Int) * n ≤ 281474976710656 ∧ (n : Int) ≤ 9223372036854775807 := ⟨by omega, by omega, by omega, by omega⟩
  refine Chk.mk hm (Chk.mk hm ?_)
  have hsum : ∀ k, k ≤ n → -8796093022208 ≤ sumH (fun j => hC (hs j)) k ∧ sumH (fun j => hC (hs j)) k ≤ 8796093022208 := fun k hk => by
    have := sumH_range (f := fun j => hC (hs j)) (n := k) (lo := -1099511627776) (hi := 1099511627776) (fun j _ => hC_range (hs j))
    omega
  refine LoopOK.mk ⟨{ x : Nat // x ≤ n }, fun x => mkSt [(2, .loc 2 0), (3, .loc 3 0), (5, .int .i64 (sumH (fun j => hC (hs j)) x.1)), (6, .int .i64 x.1)]
      [(2, ⟨25, 3, 1, fun _ j => nth [.sl 1 n fun i _ => .int .i64 (g i), .own 301 n, .sl 1 nl fun i _ => .sl 1 (rl i) fun j _ => .int .i64 (lk i j)] j, 0, true⟩), (3, ⟨34, 3, 1, fun _ j => nth [.sl 1 n fun i _ => .int .i64 (hs i), .own 300 n, .int .i64 amb] j, 0, true⟩),
       (301, ⟨3, 1, n, fun _ _ => .int .i64 0, 0, false⟩), (300, ⟨3, 1, n, fun _ _ => .int .i64 0, 0, false⟩)], fun x => n - x.1, ⟨⟨0, by omega⟩, ?_⟩, ?_⟩
  · refine wk_of [(2, some 2), (3, some 3), (301, some 23), (300, some 28)] rfl ⟨rfl, rfl, ⟨rfl, rfl⟩, ⟨rfl, rfl⟩, trivial⟩ ⟨RowLe.fin rfl rfl rfl rfl rfl ?_, RowLe.fin rfl rfl rfl rfl rfl ?_, ⟨rfl, rfl, rfl, rfl, rfl, ?_⟩, ⟨rfl, rfl, rfl, rfl, rfl, ?_⟩, trivial⟩
    · (repeat' first | exact trivial | exact ⟨by kernel_rfl, by kernel_rfl⟩ | exact Or.inr (by kernel_rfl) | (show _ = _; kernel_rfl) | refine ⟨?_, ?_⟩)
    · (repeat' first | exact trivial | exact ⟨by kernel_rfl, by kernel_rfl⟩ | exact Or.inr (by kernel_rfl) | (show _ = _; kernel_rfl) | refine ⟨?_, ?_⟩)
    · intro k j _ hj
      have hj : j < 1 := hj
      have : j = 0 := by omega
      subst this
      exact Or.inr rfl
    · intro k j _ hj
      have hj : j < 1 := hj
      have : j = 0 := by omega
      subst this
      exact Or.inr rfl
  rintro ⟨i, hi⟩
  have hi : i ≤ n := hi
  refine Brn.mk (fun h => ?_) (fun h => ?_)
  · have h : (i : Int) < n := of_decide_eq_true h
    have hb : (0 : Int) ≤ (i : Int) ∧ (i : Int) < (n : Int) := ⟨by omega, h⟩
    refine Chk.mk hb ?_
    refine ⟨⟨i + 1, by omega⟩, by show n - (i + 1) < n - i; omega, ?_⟩
    refine wk_of [(2, some 2), (3, some 3), (301, some 301), (300, some 300)] rfl ⟨rfl, rfl, ⟨?_, rfl⟩, ⟨wrS (i := i) (by omega), rfl⟩, trivial⟩ ⟨RowLe.fin rfl rfl rfl rfl rfl ?_, RowLe.fin rfl rfl rfl rfl rfl ?_, ⟨rfl, rfl, rfl, rfl, rfl, fun _ _ _ _ => Or.inr rfl⟩, ⟨rfl, rfl, rfl, rfl, rfl, fun _ _ _ _ => Or.inr rfl⟩, trivial⟩
    · show AV.int .i64 (wr (sumH (fun j => hC (hs j)) i + hC (hs i))) = AV.int .i64 (sumH (fun j => hC (hs j)) (i + 1))
      have h1 := hsum i hi
      have h2 := hC_range (hs i)
      rw [sumH, wr_id (by omega) (by omega)]
    · (repeat' first | exact trivial | exact ⟨by kernel_rfl, by kernel_rfl⟩ | exact Or.inr (by kernel_rfl) | (show _ = _; kernel_rfl) | refine ⟨?_, ?_⟩)
    · (repeat' first | exact trivial | exact ⟨by kernel_rfl, by kernel_rfl⟩ | exact Or.inr (by kernel_rfl) | (show _ = _; kernel_rfl) | refine ⟨?_, ?_⟩)
  have h : ¬ (i : Int) < n := of_decide_eq_false h
  have hin : i = n := by omega
  subst hin
  refine Chk.mk ⟨⟨isI_mk, ⟨rfl, fun i hi => rfl⟩, isV_mk⟩, isI_mk, ⟨rfl, fun i hi => rfl⟩⟩ ?_
  have key := conserved G hs amb
  have hs0 := hsum i (Nat.le_refl _)
  have hsum2 : ∀ k, k ≤ i → -8796093022208 ≤ sumH (fun j => stepR i g (fun _ => 0) lk hs (fun _ => 0) amb j) k ∧ sumH (fun j => stepR i g (fun _ => 0) lk hs (fun _ => 0) amb j) k ≤ 8796093022208 := fun k hk => by
    have := sumH_range (f := fun j => stepR i g (fun _ => 0) lk hs (fun _ => 0) amb j) (n := k) (lo := -1099511627776) (hi := 1099511627776) (fun j _ => hC_range _)
    omega
  refine LoopOK.mk ⟨{ x : Nat // x ≤ i }, fun x => mkSt [(5, .int .i64 (sumH (fun j => hC (hs j)) i)), (7, .sl 1 i fun j _ => .int .i64 (stepR i g (fun _ => 0) lk hs (fun _ => 0) amb j)), (8, .bit true), (9, .int .i64 (sumH (fun j => stepR i g (fun _ => 0) lk hs (fun _ => 0) amb j) x.1)), (10, .int .i64 x.1)]
      [], fun x => i - x.1, ⟨⟨0, by omega⟩, ?_⟩, ?_⟩
  · refine wk_of [] rfl ⟨⟨rfl, rfl⟩, ⟨?_, rfl⟩, ⟨?_, rfl⟩, ⟨rfl, rfl⟩, ⟨rfl, rfl⟩, trivial⟩ trivial
    · exact congrArg (fun k => AV.sl 1 k fun j _ => .int .i64 (stepR i g (fun _ => 0) lk hs (fun _ => 0) amb j)) eo
    · exact congrArg AV.bit (decide_eq_true e)
  rintro ⟨x, hx⟩
  have hx : x ≤ i := hx
  refine Brn.mk (fun h => ?_) (fun h => ?_)
  · have h : (x : Int) < i := of_decide_eq_true h
    have hb : (0 : Int) ≤ (x : Int) ∧ (x : Int) < (i : Int) := ⟨by omega, h⟩
    refine Chk.mk hb ?_
    refine ⟨⟨x + 1, by omega⟩, by show i - (x + 1) < i - x; omega, ?_⟩
    refine wk_of [] rfl ⟨⟨rfl, rfl⟩, ⟨rfl, rfl⟩, ⟨rfl, rfl⟩, ⟨?_, rfl⟩, ⟨wrS (i := x) (by omega), rfl⟩, trivial⟩ trivial
    show AV.int .i64 (wr (sumH (fun j => stepR i g (fun _ => 0) lk hs (fun _ => 0) amb j) x + stepR i g (fun _ => 0) lk hs (fun _ => 0) amb x)) = AV.int .i64 (sumH (fun j => stepR i g (fun _ => 0) lk hs (fun _ => 0) amb j) (x + 1))
    have h1 := hsum2 x hx
    have h2 : -1099511627776 ≤ stepR i g (fun _ => 0) lk hs (fun _ => 0) amb x ∧ stepR i g (fun _ => 0) lk hs (fun _ => 0) amb x ≤ 1099511627776 := hC_range _
    rw [sumH, wr_id (by omega) (by omega)]
  have h : ¬ (x : Int) < i := of_decide_eq_false h
  have hxi : x = i := by omega
  subst hxi
  refine Brn.mk (fun _ => ?_) (fun q => absurd q (by decide))
  refine Brn.mk (fun _ => ?_) (fun q => absurd key.1 (of_decide_eq_false q))
  refine AVle.bit (decide_eq_true ?_)
  show wr (sumH (fun j => hC (hs j)) x - x) < sumH (fun j => stepR x g (fun _ => 0) lk hs (fun _ => 0) amb j) x
  rw [wr_id (by omega) (by omega)]
  exact key.2

theorem lifted7 (os : Os) (started : os.Started) (H : Type) (enc : TypeId × Value → H) :
    ReturnsInHanded {} Try.checked os 7 .any (Rows.heatConservesSpec.pre6 enc Try.prog Try.f7 Rows.heatConservesRow.domain false) (Rows.heatConservesSpec.post enc Try.prog Try.f7 false true false false) := by
  refine returnsInHanded_of_change (C := Try.checked) own0 started (by kernel_rfl) Try.func7
    (ChangeSpec.witness6 (enc := enc) (C := Try.checked) false ⟨#[], #[.agg #[.slice none 0 0, .slice none 0 0, .slice none 0 0], .agg #[.slice none 0 0, .slice none 0 0, .int .i64 0]], []⟩ 8 (by kernel_rfl) (by kernel_rfl) (by kernel_rfl) (by kernel_rfl)) ?_
  intro W base args ds gs before hval hW _ _
  exact law_contract tabE0 (d := 9) (tb := 4) [25, 34] (by kernel_rfl) (by kernel_rfl) (by kernel_rfl) rfl laidOut0 (by kernel_rfl) (by kernel_rfl)
    (fun H ds h => match ds, h with | [_, _], _ => rfl) law7 hval hW

theorem HeatConserves_proved : Rows.HeatConservesSaid :=
  OpenClaim.holds_of_wide (p := Try.pinned) (s := Rows.heatConservesSpec) (c := Rows.heatConservesRow) 7 Try.f7 rfl rfl rfl rfl rfl rfl rfl ⟨rfl, rfl, rfl, rfl, rfl⟩ rfl rfl rfl rfl rfl (by kernel_rfl) Try.func7 (by kernel_rfl)
    (of_decide_eq_true (by kernel_rfl)) (by unfold Func.isWrapper; rw [if_neg (of_decide_eq_false (by kernel_rfl))]; exact ⟨rfl, rfl⟩)
    (fun os started H enc _ => lifted7 os started H enc)
end
end Go.Proofs.Ytiofgjebbpnkiaa
