/- Chapter 30: without power all nodes stay from the least to the greatest of the heats before and that of the ambient. Conditions: none. -/
import Derived.Test.YtiofgjebbpnkiaaHetN
import Derived.Test.YtiofgjebbpnkiaaRows
import Derived.ProofKit
namespace Go.Proofs.Ytiofgjebbpnkiaa
open Go Go.Proofs.Ytiofgjebbpnkiaa.AI Go.Proofs Go.Proofs.Ytiofgjebbpnkiaa.Img Go.ChangeShapes Go.WideShapes Go.ChangeAt Go.RowKit
noncomputable section
set_option maxRecDepth 100000

theorem between {n : Nat} {g am : Nat → Int} {lk : Nat → Nat → Int} (G : GoodC n g am lk) {xs : Nat → Int} {amb : Int} {i : Nat} (hi : i < n) {lo hi' : Int} (hlo : lo ≤ ambR amb ∧ ambR amb ≤ hi') (hx : ∀ j, j < n → lo ≤ hC (xs j) ∧ hC (xs j) ≤ hi') :
    (lo ≤ stepR n g am lk xs (fun _ => 0) amb i ∧ stepR n g am lk xs (fun _ => 0) amb i ≤ hi') ∧ hC (stepR n g am lk xs (fun _ => 0) amb i) = stepR n g am lk xs (fun _ => 0) amb i := by
  obtain ⟨h1, h2, h3⟩ := step_val G (hs := xs) (ps := fun _ => 0) hi hlo hx
  have h4 := hx i hi
  have h5 := hC_range (xs i)
  rw [h1, show pC 0 = 0 from rfl, Int.mul_zero, Int.add_zero]
  generalize hC (xs i) + accI (am i) (ambR amb) (hC (xs i)) (lk i) (fun j => hC (xs j)) n / 65536 = M at h2 h3
  unfold hC at *
  omega
set_option maxHeartbeats 1000000 in
theorem law6 (avs : List AV) (H : ArgAll E0 9 [25, 34] avs) : FnOK Try.prog TE 6 avs (.bit true) := by
  obtain ⟨l, m, hl, hm, rfl⟩ := argAll2 H
  obtain ⟨n, na, nl, gf, af, lf, rfl, h1, h2, h3⟩ := openC hl
  obtain ⟨hn, pn, hf, pf, amb, rfl, h4, h5, _⟩ := openCase hm
  show FnOK Try.prog TE 6 [.agg [.sl 1 n gf, .sl 1 na af, .sl 1 nl lf], .agg [.sl 1 hn hf, .sl 1 pn pf, .int .i64 amb]] (.bit true)
  refine FnOK.args ?_ (m := [.agg (cfgL n na nl (vI gf) (vI af) (vN lf) (vII lf)), .agg [.sl 1 hn fun i _ => .int .i64 (vI hf i), .sl 1 pn fun i _ => .int .i64 (vI pf i), .int .i64 amb]])
    ⟨.aggL ⟨ints_le1 rfl h1, ints_le1 rfl h2, h3.le1 rfl, trivial⟩, .aggL ⟨ints_le1 rfl h4, ints_le1 rfl h5, .refl, trivial⟩, trivial⟩
  generalize vI gf = g
  generalize vI af = am
  generalize vII lf = lk
  generalize vN lf = rl
  generalize vI hf = hs
  generalize vI pf = ps
  show FnOK Try.prog TE 6 [.agg [.sl 1 n fun i _ => .int .i64 (g i), .sl 1 na fun i _ => .int .i64 (am i), .sl 1 nl fun i _ => .sl 1 (rl i) fun j _ => .int .i64 (lk i j)], .agg [.sl 1 hn fun i _ => .int .i64 (hs i), .sl 1 pn fun i _ => .int .i64 (ps i), .int .i64 amb]] (.bit true)
  refine fn_ofF tabsOK (specOK_cons okAwake (specOK_cons okFits (specOK_cons okTick (specOK_cons okBClip specOK_nil)))) mixed Try.func6 (by kernel_rfl) ?_
  refine Chk.mk ⟨isI_mk, isI_mk, isV_mk⟩ ?_
  refine Brn.mk (fun _ => AVle.bit rfl) (fun q => ?_)
  have q : (!fitsB n na nl (hchk n na nl g am rl lk) hn pn) = false := q
  obtain ⟨q0, e1, e2⟩ := fits_of q
  subst e1 e2
  have G := good_of q0
  have e : stepErr (hchk n na nl g am rl lk) n n n = 0 := by rw [stepErr, if_pos q0, if_pos ⟨rfl, rfl⟩]
  have eo : outN (stepErr (hchk n na nl g am rl lk) n n n) n = n := by rw [e, outN, if_pos rfl]
  have n8 := G.n8
  have hm : (0 : Int) ≤ n ∧ (n : Int) ≤ n ∧ ((8 : Nat) : Int) * n ≤ 281474976710656 ∧ (n : Int) ≤ 9223372036854775807 := ⟨by omega, by omega, by omega, by omega⟩
  refine Chk.mk hm ?_
  refine LoopOK.mk ⟨{ x : Nat × Int × Int // x.1 ≤ n ∧ (x.2.1 ≤ ambR amb ∧ ambR amb ≤ x.2.2) ∧ ∀ j, j < x.1 → x.2.1 ≤ hC (hs j) ∧ hC (hs j) ≤ x.2.2 }, fun x => mkSt [(2, .loc 2 0), (3, .loc 3 0), (5, .int .i64 x.1.2.1), (6, .int .i64 x.1.2.2), (7, .int .i64 x.1.1)]
      [(2, ⟨25, 3, 1, fun _ j => nth (cfgL n na nl g am rl lk) j, 0, true⟩), (3, ⟨34, 3, 1, fun _ j => nth [.sl 1 n fun i _ => .int .i64 (hs i), .own 300 n, .int .i64 amb] j, 0, true⟩), (300, ⟨3, 1, n, fun _ _ => .int .i64 0, 0, false⟩)], fun x => n - x.1.1, ⟨⟨(0, ambR amb, ambR amb), by omega, ⟨Int.le_refl _, Int.le_refl _⟩, fun j hj => absurd hj (Nat.not_lt_zero _)⟩, ?_⟩, ?_⟩
  · refine wk_of [(2, some 2), (3, some 3), (300, some 30)] rfl ⟨rfl, rfl, ⟨rfl, rfl⟩, ⟨rfl, rfl⟩, ⟨rfl, rfl⟩, trivial⟩ ⟨RowLe.fin rfl rfl rfl rfl rfl ?_, RowLe.fin rfl rfl rfl rfl rfl ?_, ⟨rfl, rfl, rfl, rfl, rfl, ?_⟩, trivial⟩
    · (repeat' first | exact trivial | exact ⟨by kernel_rfl, by kernel_rfl⟩ | exact Or.inr (by kernel_rfl) | (show _ = _; kernel_rfl) | refine ⟨?_, ?_⟩)
    · (repeat' first | exact trivial | exact ⟨by kernel_rfl, by kernel_rfl⟩ | exact Or.inr (by kernel_rfl) | (show _ = _; kernel_rfl) | refine ⟨?_, ?_⟩)
    · intro k j _ hj
      have hj : j < 1 := hj
      have : j = 0 := by omega
      subst this
      exact Or.inr rfl
  rintro ⟨⟨i, lo, hi'⟩, hi, hlo, hx⟩
  have hi : i ≤ n := hi
  have hlo : lo ≤ ambR amb ∧ ambR amb ≤ hi' := hlo
  have hx : ∀ j, j < i → lo ≤ hC (hs j) ∧ hC (hs j) ≤ hi' := hx
  refine Brn.mk (fun h => ?_) (fun h => ?_)
  · have h : (i : Int) < n := of_decide_eq_true h
    have hb : (0 : Int) ≤ (i : Int) ∧ (i : Int) < (n : Int) := ⟨by omega, h⟩
    refine Chk.mk hb ?_
    refine ⟨⟨(i + 1, min lo (hC (hs i)), max hi' (hC (hs i))), by show i + 1 ≤ n; omega, ⟨by show min lo (hC (hs i)) ≤ ambR amb; omega, by show ambR amb ≤ max hi' (hC (hs i)); omega⟩, ?_⟩, by show n - (i + 1) < n - i; omega, ?_⟩
    · intro j hj
      have hj : j < i + 1 := hj
      show min lo (hC (hs i)) ≤ hC (hs j) ∧ hC (hs j) ≤ max hi' (hC (hs i))
      by_cases e : j = i
      · subst e; omega
      · have := hx j (by omega)
        omega
    refine wk_of [(2, some 2), (3, some 3), (300, some 300)] rfl ⟨rfl, rfl, ⟨rfl, rfl⟩, ⟨rfl, rfl⟩, ⟨wrS (i := i) (by omega), rfl⟩, trivial⟩ ⟨RowLe.fin rfl rfl rfl rfl rfl ?_, RowLe.fin rfl rfl rfl rfl rfl ?_, ⟨rfl, rfl, rfl, rfl, rfl, fun _ _ _ _ => Or.inr rfl⟩, trivial⟩
    · (repeat' first | exact trivial | exact ⟨by kernel_rfl, by kernel_rfl⟩ | exact Or.inr (by kernel_rfl) | (show _ = _; kernel_rfl) | refine ⟨?_, ?_⟩)
    · (repeat' first | exact trivial | exact ⟨by kernel_rfl, by kernel_rfl⟩ | exact Or.inr (by kernel_rfl) | (show _ = _; kernel_rfl) | refine ⟨?_, ?_⟩)
  have h : ¬ (i : Int) < n := of_decide_eq_false h
  have hin : i = n := by omega
  subst hin
  refine LoopOK.mk ⟨{ x : Nat × (Nat → Int) // x.1 ≤ 6 ∧ ∀ j, j < i → lo ≤ hC (x.2 j) ∧ hC (x.2 j) ≤ hi' }, fun x => mkSt [(2, .loc 2 0), (3, .loc 3 0), (5, .int .i64 lo), (6, .int .i64 hi'), (9, .int .i64 x.1.1)]
      [(2, ⟨25, 3, 1, fun _ j => nth (cfgL i na nl g am rl lk) j, 0, true⟩), (3, ⟨34, 3, 1, fun _ j => nth [.sl 1 i fun k _ => .int .i64 (x.1.2 k), .own 300 i, .int .i64 amb] j, 0, true⟩), (300, ⟨3, 1, i, fun _ _ => .int .i64 0, 1, false⟩)], fun x => 6 - x.1.1, ⟨⟨(0, hs), by show 0 ≤ 6; omega, hx⟩, ?_⟩, ?_⟩
  · refine wk_of [(2, some 2), (3, some 3), (300, some 300)] rfl ⟨rfl, rfl, ⟨rfl, rfl⟩, ⟨rfl, rfl⟩, ⟨rfl, rfl⟩, trivial⟩ ⟨RowLe.fin rfl rfl rfl rfl rfl ?_, RowLe.fin rfl rfl rfl rfl rfl ?_, ⟨rfl, rfl, rfl, rfl, rfl, fun _ _ _ _ => Or.inr rfl⟩, trivial⟩
    · (repeat' first | exact trivial | exact ⟨by kernel_rfl, by kernel_rfl⟩ | exact Or.inr (by kernel_rfl) | (show _ = _; kernel_rfl) | refine ⟨?_, ?_⟩)
    · (repeat' first | exact trivial | exact ⟨by kernel_rfl, by kernel_rfl⟩ | exact Or.inr (by kernel_rfl) | (show _ = _; kernel_rfl) | refine ⟨?_, ?_⟩)
  rintro ⟨⟨k, xs⟩, hk, hxs⟩
  have hk : k ≤ 6 := hk
  have hxs : ∀ j, j < i → lo ≤ hC (xs j) ∧ hC (xs j) ≤ hi' := hxs
  refine Brn.mk (fun h => ?_) (fun _ => AVle.bit rfl)
  have h : (k : Int) < 6 := of_decide_eq_true h
  refine Chk.mk ⟨⟨isI_mk, isI_mk, isV_mk⟩, isI_mk, isI_mk⟩ ?_
  refine Brn.mk (fun q => absurd e (ndT q)) (fun _ => ?_)
  refine LoopOK.mk ⟨{ x : Nat // x ≤ i }, fun x => mkSt [(2, .loc 2 0), (3, .loc 3 0), (5, .int .i64 lo), (6, .int .i64 hi'), (9, .int .i64 k), (10, .sl 1 i fun t _ => .int .i64 (stepR i g am lk xs (fun _ => 0) amb t)), (12, .int .i64 x.1)]
      [(2, ⟨25, 3, 1, fun _ j => nth (cfgL i na nl g am rl lk) j, 0, true⟩), (3, ⟨34, 3, 1, fun _ j => nth [.sl 1 i fun k _ => .int .i64 (xs k), .own 300 i, .int .i64 amb] j, 0, true⟩), (300, ⟨3, 1, i, fun _ _ => .int .i64 0, 1, false⟩)], fun x => i - x.1, ⟨⟨0, by omega⟩, ?_⟩, ?_⟩
  · refine wk_of [(2, some 2), (3, some 3), (300, some 300)] rfl ⟨rfl, rfl, ⟨rfl, rfl⟩, ⟨rfl, rfl⟩, ⟨rfl, rfl⟩, ⟨?_, rfl⟩, ⟨rfl, rfl⟩, trivial⟩ ⟨RowLe.fin rfl rfl rfl rfl rfl ?_, RowLe.fin rfl rfl rfl rfl rfl ?_, ⟨rfl, rfl, rfl, rfl, rfl, fun _ _ _ _ => Or.inr rfl⟩, trivial⟩
    · exact congrArg (fun k => AV.sl 1 k fun t _ => .int .i64 (stepR i g am lk xs (fun _ => 0) amb t)) eo
    · (repeat' first | exact trivial | exact ⟨by kernel_rfl, by kernel_rfl⟩ | exact Or.inr (by kernel_rfl) | (show _ = _; kernel_rfl) | refine ⟨?_, ?_⟩)
    · (repeat' first | exact trivial | exact ⟨by kernel_rfl, by kernel_rfl⟩ | exact Or.inr (by kernel_rfl) | (show _ = _; kernel_rfl) | refine ⟨?_, ?_⟩)
  rintro ⟨x, hx'⟩
  have hx' : x ≤ i := hx'
  refine Brn.mk (fun h => ?_) (fun h => ?_)
  · have h : (x : Int) < i := of_decide_eq_true h
    have hb : (0 : Int) ≤ (x : Int) ∧ (x : Int) < (i : Int) := ⟨by omega, h⟩
    have key := between G (i := x) (by omega) hlo hxs
    refine Chk.mk hb ?_
    refine Brn.mk (fun q => absurd (show stepR i g am lk xs (fun _ => 0) amb x < lo from of_decide_eq_true q) (by omega)) (fun _ => ?_)
    refine Chk.mk hb ?_
    refine Brn.mk (fun q => absurd (show hi' < stepR i g am lk xs (fun _ => 0) amb x from of_decide_eq_true q) (by omega)) (fun _ => ?_)
    refine ⟨⟨x + 1, by omega⟩, by show i - (x + 1) < i - x; omega, ?_⟩
    refine wk_of [(2, some 2), (3, some 3), (300, some 300)] rfl ⟨rfl, rfl, ⟨rfl, rfl⟩, ⟨rfl, rfl⟩, ⟨rfl, rfl⟩, ⟨rfl, rfl⟩, ⟨wrS (i := x) (by omega), rfl⟩, trivial⟩ ⟨RowLe.fin rfl rfl rfl rfl rfl ?_, RowLe.fin rfl rfl rfl rfl rfl ?_, ⟨rfl, rfl, rfl, rfl, rfl, fun _ _ _ _ => Or.inr rfl⟩, trivial⟩
    · (repeat' first | exact trivial | exact ⟨by kernel_rfl, by kernel_rfl⟩ | exact Or.inr (by kernel_rfl) | (show _ = _; kernel_rfl) | refine ⟨?_, ?_⟩)
    · (repeat' first | exact trivial | exact ⟨by kernel_rfl, by kernel_rfl⟩ | exact Or.inr (by kernel_rfl) | (show _ = _; kernel_rfl) | refine ⟨?_, ?_⟩)
  refine ⟨⟨(k + 1, fun t => stepR i g am lk xs (fun _ => 0) amb t), by show k + 1 ≤ 6; omega, fun j hj => ?_⟩, by show 6 - (k + 1) < 6 - k; omega, ?_⟩
  · have key := between G (i := j) hj hlo hxs
    show lo ≤ hC (stepR i g am lk xs (fun _ => 0) amb j) ∧ hC (stepR i g am lk xs (fun _ => 0) amb j) ≤ hi'
    rw [key.2]
    exact key.1
  refine wk_of [(2, some 2), (3, some 3), (300, some 300)] rfl ⟨rfl, rfl, ⟨rfl, rfl⟩, ⟨rfl, rfl⟩, ⟨wrS (i := k) (by omega), rfl⟩, trivial⟩ ⟨RowLe.fin rfl rfl rfl rfl rfl ?_, RowLe.fin rfl rfl rfl rfl rfl ?_, ⟨rfl, rfl, rfl, rfl, rfl, fun _ _ _ _ => Or.inr rfl⟩, trivial⟩
  · (repeat' first | exact trivial | exact ⟨by kernel_rfl, by kernel_rfl⟩ | exact Or.inr (by kernel_rfl) | (show _ = _; kernel_rfl) | refine ⟨?_, ?_⟩)
  · (repeat' first | exact trivial | exact ⟨by kernel_rfl, by kernel_rfl⟩ | exact Or.inr (by kernel_rfl) | (show _ = _; kernel_rfl) | refine ⟨?_, ?_⟩)

theorem lifted6 (os : Os) (started : os.Started) (H : Type) (enc : TypeId × Value → H) :
    ReturnsInHanded {} Try.checked os 6 .any (Rows.heatBetweenSpec.pre6 enc Try.prog Try.f6 Rows.heatBetweenRow.domain false) (Rows.heatBetweenSpec.post enc Try.prog Try.f6 false true false false) := by
  refine returnsInHanded_of_change (C := Try.checked) own0 started (by kernel_rfl) Try.func6
    (ChangeSpec.witness6 (enc := enc) (C := Try.checked) false ⟨#[], #[.agg #[.slice none 0 0, .slice none 0 0, .slice none 0 0], .agg #[.slice none 0 0, .slice none 0 0, .int .i64 0]], []⟩ 8 (by kernel_rfl) (by kernel_rfl) (by kernel_rfl) (by kernel_rfl)) ?_
  intro W base args ds gs before hval hW _ _
  exact law_contract tabE0 (d := 9) (tb := 4) [25, 34] (by kernel_rfl) (by kernel_rfl) (by kernel_rfl) rfl laidOut0 (by kernel_rfl) (by kernel_rfl)
    (fun H ds h => match ds, h with | [_, _], _ => rfl) law6 hval hW

theorem HeatBetween_proved : Rows.HeatBetweenSaid :=
  OpenClaim.holds_of_wide (p := Try.pinned) (s := Rows.heatBetweenSpec) (c := Rows.heatBetweenRow) 6 Try.f6 rfl rfl rfl rfl rfl rfl rfl ⟨rfl, rfl, rfl, rfl, rfl⟩ rfl rfl rfl rfl rfl (by kernel_rfl) Try.func6 (by kernel_rfl)
    (of_decide_eq_true (by kernel_rfl)) (by unfold Func.isWrapper; rw [if_neg (of_decide_eq_false (by kernel_rfl))]; exact ⟨rfl, rfl⟩)
    (fun os started H enc _ => lifted6 os started H enc)
end
end Go.Proofs.Ytiofgjebbpnkiaa
