/- Chapter 30: with more heat, power or ambient no node has less heat after some ticks. Conditions: none. -/
import Derived.Test.YtiofgjebbpnkiaaHetS
import Derived.Test.YtiofgjebbpnkiaaAiFrz
import Derived.Test.YtiofgjebbpnkiaaRows
import Derived.ProofKit
namespace Go.Proofs.Ytiofgjebbpnkiaa
open Go Go.Proofs.Ytiofgjebbpnkiaa.AI Go.Proofs Go.Proofs.Ytiofgjebbpnkiaa.Img Go.ChangeShapes Go.WideShapes Go.ChangeAt Go.RowKit
noncomputable section
set_option maxRecDepth 100000

theorem acc_lin (am A h : Int) (lk xs : Nat → Int) : ∀ k, accI am A h lk xs k + sumW am lk k * h = am * A + sumH (fun j => lk j * xs j) k
  | 0 => by rw [accI, sumW, sumH, Int.mul_sub]; omega
  | k + 1 => by
    have := acc_lin am A h lk xs k
    rw [accI, sumW, sumH, Int.mul_sub, Int.add_mul]
    omega
theorem sumH_mono {f g : Nat → Int} : ∀ {n : Nat}, (∀ i, i < n → f i ≤ g i) → sumH f n ≤ sumH g n
  | 0, _ => Int.le_refl _
  | n + 1, h => by
    have h1 := sumH_mono (n := n) (f := f) (g := g) (fun i hi => h i (by omega))
    have h2 := h n (by omega)
    rw [sumH, sumH]
    omega
theorem ambR_mono {a b : Int} (h : a ≤ b) : ambR a ≤ ambR b := by
  unfold ambR
  rw [wr_id (by omega) (by omega), wr_id (by omega) (by omega)]
  omega
theorem tick_mono {n : Nat} {g am : Nat → Int} {lk : Nat → Nat → Int} (G : GoodC n g am lk) {hs hs' ps ps' : Nat → Int} {amb amb' : Int} (h1 : ∀ j, j < n → hs j ≤ hs' j) (h2 : ∀ j, j < n → ps j ≤ ps' j) (h3 : amb ≤ amb') {i : Nat} (hi : i < n) :
    stepR n g am lk hs ps amb i ≤ stepR n g am lk hs' ps' amb' i := by
  have hA := amb_range amb
  have hA' := amb_range amb'
  have v1 := (step_val G (hs := hs) (ps := ps) (amb := amb) hi (lo := -1099511627776) (hi' := 1099511627776) ⟨by omega, by omega⟩ (fun j _ => hC_range (hs j))).1
  have v2 := (step_val G (hs := hs') (ps := ps') (amb := amb') hi (lo := -1099511627776) (hi' := 1099511627776) ⟨by omega, by omega⟩ (fun j _ => hC_range (hs' j))).1
  rw [v1, v2]
  apply hC_mono
  have a1 := acc_lin (am i) (ambR amb) (hC (hs i)) (lk i) (fun j => hC (hs j)) n
  have a2 := acc_lin (am i) (ambR amb') (hC (hs' i)) (lk i) (fun j => hC (hs' j)) n
  have m1 : am i * ambR amb ≤ am i * ambR amb' := Int.mul_le_mul_of_nonneg_left (ambR_mono h3) (G.a i hi).1
  have m2 : sumH (fun j => lk i j * hC (hs j)) n ≤ sumH (fun j => lk i j * hC (hs' j)) n := sumH_mono fun j hj => Int.mul_le_mul_of_nonneg_left (hC_mono (h1 j hj)) (G.l i j hi hj).1
  have m3 : (65536 - sumW (am i) (lk i) n) * hC (hs i) ≤ (65536 - sumW (am i) (lk i) n) * hC (hs' i) := Int.mul_le_mul_of_nonneg_left (hC_mono (h1 i hi)) (by have := G.sum i hi; omega)
  have m4 : g i * pC (ps i) ≤ g i * pC (ps' i) := Int.mul_le_mul_of_nonneg_left (pC_mono (h2 i hi)) (G.g i hi).1
  rw [Int.sub_mul, Int.sub_mul] at m3
  generalize accI (am i) (ambR amb) (hC (hs i)) (lk i) (fun j => hC (hs j)) n = X at a1
  generalize accI (am i) (ambR amb') (hC (hs' i)) (lk i) (fun j => hC (hs' j)) n = Y at a2
  omega
set_option maxHeartbeats 2000000 in
theorem law5 (avs : List AV) (H : ArgAll E0 9 [25, 34, 34] avs) : FnOK Try.prog TE 5 avs (.bit true) := by
  obtain ⟨l, m, o, hl, hm, ho, rfl⟩ := argAll3 H
  obtain ⟨n, na, nl, gf, af, lf, rfl, h1, h2, h3⟩ := openC hl
  obtain ⟨hn, pn, hf, pf, amb, rfl, h4, h5, _⟩ := openCase hm
  obtain ⟨hn', pn', hf', pf', amb', rfl, h6, h7, _⟩ := openCase ho
  show FnOK Try.prog TE 5 [.agg [.sl 1 n gf, .sl 1 na af, .sl 1 nl lf], .agg [.sl 1 hn hf, .sl 1 pn pf, .int .i64 amb], .agg [.sl 1 hn' hf', .sl 1 pn' pf', .int .i64 amb']] (.bit true)
  refine FnOK.args ?_ (m := [.agg (cfgL n na nl (vI gf) (vI af) (vN lf) (vII lf)), .agg [.sl 1 hn fun i _ => .int .i64 (vI hf i), .sl 1 pn fun i _ => .int .i64 (vI pf i), .int .i64 amb], .agg [.sl 1 hn' fun i _ => .int .i64 (vI hf' i), .sl 1 pn' fun i _ => .int .i64 (vI pf' i), .int .i64 amb']])
    ⟨.aggL ⟨ints_le1 rfl h1, ints_le1 rfl h2, h3.le1 rfl, trivial⟩, .aggL ⟨ints_le1 rfl h4, ints_le1 rfl h5, .refl, trivial⟩, .aggL ⟨ints_le1 rfl h6, ints_le1 rfl h7, .refl, trivial⟩, trivial⟩
  generalize vI gf = g
  generalize vI af = am
  generalize vII lf = lk
  generalize vN lf = rl
  generalize vI hf = hs
  generalize vI pf = ps
  generalize vI hf' = hs'
  generalize vI pf' = ps'
  show FnOK Try.prog TE 5 [.agg [.sl 1 n fun i _ => .int .i64 (g i), .sl 1 na fun i _ => .int .i64 (am i), .sl 1 nl fun i _ => .sl 1 (rl i) fun j _ => .int .i64 (lk i j)], .agg [.sl 1 hn fun i _ => .int .i64 (hs i), .sl 1 pn fun i _ => .int .i64 (ps i), .int .i64 amb], .agg [.sl 1 hn' fun i _ => .int .i64 (hs' i), .sl 1 pn' fun i _ => .int .i64 (ps' i), .int .i64 amb']] (.bit true)
  refine fn_ofF tabsOK (specOK_cons okAwake (specOK_cons okFits (specOK_cons okTick specOK_nil))) mixed Try.func5 (by kernel_rfl) ?_
  refine Chk.mk ⟨isI_mk, isI_mk, isV_mk⟩ ?_
  refine Brn.mk (fun _ => AVle.bit rfl) (fun q => ?_)
  refine Chk.mk ⟨isI_mk, isI_mk, isV_mk⟩ ?_
  refine Brn.mk (fun _ => AVle.bit rfl) (fun q' => ?_)
  have q : (!fitsB n na nl (hchk n na nl g am rl lk) hn pn) = false := q
  have q' : (!fitsB n na nl (hchk n na nl g am rl lk) hn' pn') = false := q'
  obtain ⟨q0, e1, e2⟩ := fits_of q
  obtain ⟨_, e3, e4⟩ := fits_of q'
  subst e1 e2 e3 e4
  have G := good_of q0
  have e : stepErr (hchk n na nl g am rl lk) n n n = 0 := by rw [stepErr, if_pos q0, if_pos ⟨rfl, rfl⟩]
  have eo : outN (stepErr (hchk n na nl g am rl lk) n n n) n = n := by rw [e, outN, if_pos rfl]
  have n8 := G.n8
  refine Chk.mk (by kernel_rfl) ?_
  refine LoopOK.mk ⟨{ x : Nat // x ≤ n }, fun x => mkSt [(3, .loc 3 0), (4, .loc 4 0), (5, .loc 5 0), (7, .loc 7 0), (8, .loc 8 0), (9, .int .i64 x.1)]
      [(3, ⟨25, 3, 1, fun _ j => nth (cfgL n na nl g am rl lk) j, 0, true⟩),
       (4, ⟨34, 3, 1, fun _ j => nth [.sl 1 n fun i _ => .int .i64 (hs i), .sl 1 n fun i _ => .int .i64 (ps i), .int .i64 amb] j, 0, true⟩),
       (5, ⟨34, 3, 1, fun _ j => nth [.sl 1 n fun i _ => .int .i64 (hs' i), .sl 1 n fun i _ => .int .i64 (ps' i), .int .i64 amb'] j, 0, true⟩),
       (7, ⟨34, 3, 1, fun _ j => nth [.own 200 x.1, .own 201 x.1, .int .i64 (min amb amb')] j, 0, true⟩),
       (8, ⟨34, 3, 1, fun _ j => nth [.own 202 x.1, .own 203 x.1, .int .i64 (max amb amb')] j, 0, true⟩),
       (200, ⟨3, 1, x.1, fun k _ => .int .i64 (min (hs k) (hs' k)), 1, false⟩), (201, ⟨3, 1, x.1, fun k _ => .int .i64 (min (ps k) (ps' k)), 1, false⟩),
       (202, ⟨3, 1, x.1, fun k _ => .int .i64 (max (hs k) (hs' k)), 1, false⟩), (203, ⟨3, 1, x.1, fun k _ => .int .i64 (max (ps k) (ps' k)), 1, false⟩)], fun x => n - x.1, ⟨⟨0, by omega⟩, ?_⟩, ?_⟩
  · refine wk_of [(3, some 3), (4, some 4), (5, some 5), (7, some 7), (8, some 8), (200, none), (201, none), (202, none), (203, none)] rfl ⟨rfl, rfl, rfl, rfl, rfl, ⟨rfl, rfl⟩, trivial⟩
      ⟨RowLe.fin rfl rfl rfl rfl rfl ?_, RowLe.fin rfl rfl rfl rfl rfl ?_, RowLe.fin rfl rfl rfl rfl rfl ?_, RowLe.fin rfl rfl rfl rfl rfl ?_, RowLe.fin rfl rfl rfl rfl rfl ?_, ⟨rfl, rfl, rfl⟩, ⟨rfl, rfl, rfl⟩, ⟨rfl, rfl, rfl⟩, ⟨rfl, rfl, rfl⟩, trivial⟩
    all_goals (repeat' first | exact trivial | exact ⟨by kernel_rfl, by kernel_rfl⟩ | exact Or.inr (by kernel_rfl) | (show _ = _; kernel_rfl) | refine ⟨?_, ?_⟩)
  rintro ⟨i, hi⟩
  have hi : i ≤ n := hi
  refine Brn.mk (fun h => ?_) (fun h => ?_)
  · have h : (i : Int) < n := of_decide_eq_true h
    have hb : (0 : Int) ≤ (i : Int) ∧ (i : Int) < (n : Int) := ⟨by omega, h⟩
    have hq : (i + 1) * 8 ≤ 140737488355328 ∧ i + 1 ≤ 9223372036854775807 := ⟨by omega, by omega⟩
    refine Chk.mk hb (Chk.mk hb (Chk.mk hq ?_))
    refine Chk.mk hb (Chk.mk hb (Chk.mk hq ?_))
    refine Chk.mk (by kernel_rfl) ?_
    refine Chk.mk hb (Chk.mk hb (Chk.mk hq ?_))
    refine Chk.mk hb (Chk.mk hb (Chk.mk hq ?_))
    refine Chk.mk (by kernel_rfl) ?_
    refine ⟨⟨i + 1, by omega⟩, by show n - (i + 1) < n - i; omega, ?_⟩
    refine wk_of [(3, some 3), (4, some 4), (5, some 5), (7, some 7), (8, some 8), (200, some 64), (201, some 96), (202, some 79), (203, some 111)] rfl ⟨rfl, rfl, rfl, rfl, rfl, ⟨wrS (i := i) (by omega), rfl⟩, trivial⟩
      ⟨RowLe.fin rfl rfl rfl rfl rfl ?_, RowLe.fin rfl rfl rfl rfl rfl ?_, RowLe.fin rfl rfl rfl rfl rfl ?_, RowLe.fin rfl rfl rfl rfl rfl ?_, RowLe.fin rfl rfl rfl rfl rfl ?_,
       RowLe.app (n := i) (fun k => .int .i64 (min (hs k) (hs' k))) rfl rfl rfl (fun _ _ => rfl) rfl, RowLe.app (n := i) (fun k => .int .i64 (min (ps k) (ps' k))) rfl rfl rfl (fun _ _ => rfl) rfl,
       RowLe.app (n := i) (fun k => .int .i64 (max (hs k) (hs' k))) rfl rfl rfl (fun _ _ => rfl) rfl, RowLe.app (n := i) (fun k => .int .i64 (max (ps k) (ps' k))) rfl rfl rfl (fun _ _ => rfl) rfl, trivial⟩
    all_goals (repeat' first | exact trivial | exact ⟨by kernel_rfl, by kernel_rfl⟩ | exact Or.inr (by kernel_rfl) | (show _ = _; kernel_rfl) | refine ⟨?_, ?_⟩)
  have h : ¬ (i : Int) < n := of_decide_eq_false h
  have hin : i = n := by omega
  subst hin
  refine LoopOK.mk ⟨{ x : Nat × (Nat → Int) × (Nat → Int) // x.1 ≤ 4 ∧ ∀ j, j < i → x.2.1 j ≤ x.2.2 j }, fun x => mkSt [(3, .loc 3 0), (7, .loc 7 0), (8, .loc 8 0), (10, .int .i64 x.1.1)]
      [(3, ⟨25, 3, 1, fun _ j => nth (cfgL i na nl g am rl lk) j, 0, true⟩),
       (7, ⟨34, 3, 1, fun _ j => nth [.sl 1 i fun k _ => .int .i64 (x.1.2.1 k), .sl 1 i fun k _ => .int .i64 (min (ps k) (ps' k)), .int .i64 (min amb amb')] j, 0, true⟩),
       (8, ⟨34, 3, 1, fun _ j => nth [.sl 1 i fun k _ => .int .i64 (x.1.2.2 k), .sl 1 i fun k _ => .int .i64 (max (ps k) (ps' k)), .int .i64 (max amb amb')] j, 0, true⟩)], fun x => 4 - x.1.1,
       ⟨⟨(0, fun k => min (hs k) (hs' k), fun k => max (hs k) (hs' k)), by show 0 ≤ 4; omega, fun j _ => by show min (hs j) (hs' j) ≤ max (hs j) (hs' j); omega⟩, ?_⟩, ?_⟩
  · refine wk_fz [200, 201, 202, 203] ?_
    refine wk_of [(3, some 3), (7, some 7), (8, some 8)] rfl ⟨rfl, rfl, rfl, ⟨rfl, rfl⟩, trivial⟩ ⟨RowLe.fin rfl rfl rfl rfl rfl ?_, RowLe.fin rfl rfl rfl rfl rfl ?_, RowLe.fin rfl rfl rfl rfl rfl ?_, trivial⟩
    all_goals (repeat' first | exact trivial | exact ⟨by kernel_rfl, by kernel_rfl⟩ | exact Or.inr (by kernel_rfl) | (show _ = _; kernel_rfl) | refine ⟨?_, ?_⟩)
  rintro ⟨⟨k, xs, ys⟩, hk, hxy⟩
  have hk : k ≤ 4 := hk
  have hxy : ∀ j, j < i → xs j ≤ ys j := hxy
  have mono : ∀ j, j < i → stepR i g am lk xs (fun k => min (ps k) (ps' k)) (min amb amb') j ≤ stepR i g am lk ys (fun k => max (ps k) (ps' k)) (max amb amb') j := fun j hj =>
    tick_mono G hxy (fun t _ => by show min (ps t) (ps' t) ≤ max (ps t) (ps' t); omega) (by omega) hj
  refine Brn.mk (fun h => ?_) (fun _ => AVle.bit rfl)
  have h : (k : Int) < 4 := of_decide_eq_true h
  refine Chk.mk ⟨⟨isI_mk, isI_mk, isV_mk⟩, isI_mk, isI_mk⟩ ?_
  refine Chk.mk ⟨⟨isI_mk, isI_mk, isV_mk⟩, isI_mk, isI_mk⟩ ?_
  refine Brn.mk (fun q => absurd e (ndT q)) (fun _ => ?_)
  refine Brn.mk (fun q => absurd e (ndT q)) (fun _ => ?_)
  refine LoopOK.mk ⟨{ x : Nat // x ≤ i }, fun x => mkSt [(3, .loc 3 0), (7, .loc 7 0), (8, .loc 8 0), (10, .int .i64 k), (11, .sl 1 i fun t _ => .int .i64 (stepR i g am lk xs (fun k => min (ps k) (ps' k)) (min amb amb') t)), (13, .sl 1 i fun t _ => .int .i64 (stepR i g am lk ys (fun k => max (ps k) (ps' k)) (max amb amb') t)), (15, .int .i64 x.1)]
      [(3, ⟨25, 3, 1, fun _ j => nth (cfgL i na nl g am rl lk) j, 0, true⟩),
       (7, ⟨34, 3, 1, fun _ j => nth [.sl 1 i fun k _ => .int .i64 (xs k), .sl 1 i fun k _ => .int .i64 (min (ps k) (ps' k)), .int .i64 (min amb amb')] j, 0, true⟩),
       (8, ⟨34, 3, 1, fun _ j => nth [.sl 1 i fun k _ => .int .i64 (ys k), .sl 1 i fun k _ => .int .i64 (max (ps k) (ps' k)), .int .i64 (max amb amb')] j, 0, true⟩)], fun x => i - x.1, ⟨⟨0, by omega⟩, ?_⟩, ?_⟩
  · refine wk_of [(3, some 3), (7, some 7), (8, some 8)] rfl ⟨rfl, rfl, rfl, ⟨rfl, rfl⟩, ⟨?_, rfl⟩, ⟨?_, rfl⟩, ⟨rfl, rfl⟩, trivial⟩ ⟨RowLe.fin rfl rfl rfl rfl rfl ?_, RowLe.fin rfl rfl rfl rfl rfl ?_, RowLe.fin rfl rfl rfl rfl rfl ?_, trivial⟩
    · exact congrArg (fun c => AV.sl 1 c fun t _ => .int .i64 (stepR i g am lk xs (fun k => min (ps k) (ps' k)) (min amb amb') t)) eo
    · exact congrArg (fun c => AV.sl 1 c fun t _ => .int .i64 (stepR i g am lk ys (fun k => max (ps k) (ps' k)) (max amb amb') t)) eo
    all_goals (repeat' first | exact trivial | exact ⟨by kernel_rfl, by kernel_rfl⟩ | exact Or.inr (by kernel_rfl) | (show _ = _; kernel_rfl) | refine ⟨?_, ?_⟩)
  rintro ⟨x, hx⟩
  have hx : x ≤ i := hx
  refine Brn.mk (fun h => ?_) (fun _ => ?_)
  · have h : (x : Int) < i := of_decide_eq_true h
    have hb : (0 : Int) ≤ (x : Int) ∧ (x : Int) < (i : Int) := ⟨by omega, h⟩
    refine Chk.mk hb (Chk.mk hb ?_)
    refine Brn.mk (fun q => absurd (mono x (by omega)) (Int.not_le.2 (of_decide_eq_true q))) (fun _ => ?_)
    refine ⟨⟨x + 1, by omega⟩, by show i - (x + 1) < i - x; omega, ?_⟩
    refine wk_of [(3, some 3), (7, some 7), (8, some 8)] rfl ⟨rfl, rfl, rfl, ⟨rfl, rfl⟩, ⟨rfl, rfl⟩, ⟨rfl, rfl⟩, ⟨wrS (i := x) (by omega), rfl⟩, trivial⟩ ⟨RowLe.fin rfl rfl rfl rfl rfl ?_, RowLe.fin rfl rfl rfl rfl rfl ?_, RowLe.fin rfl rfl rfl rfl rfl ?_, trivial⟩
    all_goals (repeat' first | exact trivial | exact ⟨by kernel_rfl, by kernel_rfl⟩ | exact Or.inr (by kernel_rfl) | (show _ = _; kernel_rfl) | refine ⟨?_, ?_⟩)
  refine ⟨⟨(k + 1, fun t => stepR i g am lk xs (fun k => min (ps k) (ps' k)) (min amb amb') t, fun t => stepR i g am lk ys (fun k => max (ps k) (ps' k)) (max amb amb') t), by show k + 1 ≤ 4; omega, mono⟩, by show 4 - (k + 1) < 4 - k; omega, ?_⟩
  refine wk_of [(3, some 3), (7, some 7), (8, some 8)] rfl ⟨rfl, rfl, rfl, ⟨wrS (i := k) (by omega), rfl⟩, trivial⟩ ⟨RowLe.fin rfl rfl rfl rfl rfl ?_, RowLe.fin rfl rfl rfl rfl rfl ?_, RowLe.fin rfl rfl rfl rfl rfl ?_, trivial⟩
  all_goals (repeat' first | exact trivial | exact ⟨by kernel_rfl, by kernel_rfl⟩ | exact Or.inr (by kernel_rfl) | (show _ = _; kernel_rfl) | refine ⟨?_, ?_⟩)

theorem lifted5 (os : Os) (started : os.Started) (H : Type) (enc : TypeId × Value → H) :
    ReturnsInHanded {} Try.checked os 5 .any (Rows.heatMonotoneSpec.pre6 enc Try.prog Try.f5 Rows.heatMonotoneRow.domain false) (Rows.heatMonotoneSpec.post enc Try.prog Try.f5 false true false false) := by
  refine returnsInHanded_of_change (C := Try.checked) own0 started (by kernel_rfl) Try.func5
    (ChangeSpec.witness6 (enc := enc) (C := Try.checked) false ⟨#[], #[.agg #[.slice none 0 0, .slice none 0 0, .slice none 0 0], .agg #[.slice none 0 0, .slice none 0 0, .int .i64 0], .agg #[.slice none 0 0, .slice none 0 0, .int .i64 0]], []⟩ 8 (by kernel_rfl) (by kernel_rfl) (by kernel_rfl) (by kernel_rfl)) ?_
  intro W base args ds gs before hval hW _ _
  exact law_contract tabE0 (d := 9) (tb := 4) [25, 34, 34] (by kernel_rfl) (by kernel_rfl) (by kernel_rfl) rfl laidOut0 (by kernel_rfl) (by kernel_rfl)
    (fun H ds h => match ds, h with | [_, _, _], _ => rfl) law5 hval hW

theorem HeatMonotone_proved : Rows.HeatMonotoneSaid :=
  OpenClaim.holds_of_wide (p := Try.pinned) (s := Rows.heatMonotoneSpec) (c := Rows.heatMonotoneRow) 5 Try.f5 rfl rfl rfl rfl rfl rfl rfl ⟨rfl, rfl, rfl, rfl, rfl⟩ rfl rfl rfl rfl rfl (by kernel_rfl) Try.func5 (by kernel_rfl)
    (of_decide_eq_true (by kernel_rfl)) (by unfold Func.isWrapper; rw [if_neg (of_decide_eq_false (by kernel_rfl))]; exact ⟨rfl, rfl⟩)
    (fun os started H enc _ => lifted5 os started H enc)
end
end Go.Proofs.Ytiofgjebbpnkiaa
