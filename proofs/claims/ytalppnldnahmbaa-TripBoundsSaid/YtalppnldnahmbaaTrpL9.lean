/- Chapter 44: a current that begins at 0, changes by at most rise from tick to tick, does not grow while the switches are off, and is shown within the tolerance, never exceeds Peak. Conditions: none. -/
import Derived.Test.YtalppnldnahmbaaTrp4
import Derived.Test.YtalppnldnahmbaaRows
import Derived.ProofKit
namespace Go.Proofs.Ytalppnldnahmbaa
open Go Go.Proofs.Ytalppnldnahmbaa.AI Go.Proofs Go.Proofs.Ytalppnldnahmbaa.Img Go.ChangeShapes Go.WideShapes Go.ChangeAt Go.RowKit
noncomputable section
set_option maxRecDepth 100000

theorem neg_id {cu : Int} (h : 0 ≤ cu ∧ cu ≤ 2097152) : wr (0 - cu) = -cu := by rw [wr_id (by omega) (by omega)]; omega
theorem ovr_no {cu x : Int} (h : 0 ≤ cu ∧ cu ≤ 2097152) (h1 : -cu ≤ x) (h2 : x ≤ cu) : ovr cu x = false := by
  rw [ovr, neg_id h, decide_eq_false (by omega), decide_eq_false (by omega)]; rfl
/-- What holds of the state and the current after each tick. -/
def InvC (cu tol ri re : Int) (s : TS) (v : Int) : Prop :=
  (s.o = true ∧ -(cu + tol + (re + 1) * ri) ≤ v ∧ v ≤ cu + tol + (re + 1) * ri) ∨
  (s.o = false ∧ s.a = 0 ∧ -(cu + tol) ≤ v ∧ v ≤ cu + tol) ∨
  (s.o = false ∧ s.a = 1 ∧ 0 < s.b ∧ s.b ≤ re ∧ -(cu + tol + (re - s.b + 1) * ri) ≤ v ∧ v ≤ cu + tol + (re - s.b + 1) * ri)
theorem cnt_no (n m : Int) : cnt n false m = 0 := by rw [cnt, if_neg (by decide)]
theorem inv_next {cu lo hi re lt ht tol ri v v' : Int} {s : TS} (h : tchk cu lo hi re lt ht = 0) (_ : 0 ≤ tol ∧ tol ≤ 16777216) (hr0 : 0 ≤ ri ∧ ri ≤ 16777216) (hI : InvC cu tol ri re s v)
    (m1 : s.o = true → (-v ≤ v' ∧ v' ≤ v) ∨ (v ≤ v' ∧ v' ≤ -v)) (m2 : s.o = false → v - ri ≤ v' ∧ v' ≤ v + ri) :
    (-(cu + tol + (re + 1) * ri) ≤ v' ∧ v' ≤ cu + tol + (re + 1) * ri) ∧ ∀ e, -tol ≤ e → e ≤ tol → InvC cu tol ri re (tstep cu lo hi re lt ht s 0 (v' + e) 0 lo (any6 false false false false false false)) v' := by
  obtain ⟨c1, c2, c3, c4, c5⟩ := tchk_zero h
  have R0 : 0 ≤ re * ri := Int.mul_nonneg c3.1 hr0.1
  have eR : (re + 1) * ri = re * ri + ri := by rw [Int.add_mul]; omega
  rcases hI with ⟨a1, a2, a3⟩ | ⟨a1, a2, a3, a4⟩ | ⟨a1, a2, a3, a4, a5, a6⟩
  · have := m1 a1
    refine ⟨by omega, fun e _ _ => .inl ⟨?_, by omega, by omega⟩⟩
    rw [tstep, tstep1, if_pos (show (tclip lt ht s).o = true from a1)]
    exact a1
  · have := m2 a1
    refine ⟨by omega, fun e e1 e2 => ?_⟩
    have ea : (tclip lt ht s).a = 0 := by show clip s.a 0 4 = 0; rw [a2]; rfl
    rw [tstep, tstep1, if_neg (by rw [show (tclip lt ht s).o = false from a1]; decide), if_neg (by rw [ea]; decide), decide_eq_false (by omega), decide_eq_false (by omega), cnt_no, cnt_no]
    cases ho : over3 cu 0 (v' + e) 0 with
    | true =>
      have et : tcause true (any6 false false false false false false) 0 0 lt ht = 1 := by rw [tcause, if_pos rfl]
      rw [et, if_pos (by decide)]
      by_cases hre : re = 0
      · refine .inl ⟨decide_eq_true hre, by omega, by omega⟩
      · refine .inr (.inr ⟨decide_eq_false hre, rfl, by show 0 < re; omega, Int.le_refl _, ?_, ?_⟩)
        · show -(cu + tol + (re - re + 1) * ri) ≤ v'
          rw [Int.sub_self, Int.zero_add, Int.one_mul]; omega
        · show v' ≤ cu + tol + (re - re + 1) * ri
          rw [Int.sub_self, Int.zero_add, Int.one_mul]; omega
    | false =>
      have et : tcause false (any6 false false false false false false) 0 0 lt ht = 0 := by
        rw [tcause, if_neg (by decide), if_neg (by decide), if_neg (by omega), if_neg (by omega)]
      rw [et, if_neg (by decide)]
      have hv : ovr cu (v' + e) = false := by
        rw [over3] at ho
        cases h0 : ovr cu (v' + e) with
        | false => rfl
        | true => rw [h0] at ho; cases h9 : ovr cu 0 <;> rw [h9] at ho <;> cases ho
      rw [ovr, neg_id c1, Bool.or_eq_false_iff] at hv
      have hv1 := of_decide_eq_false hv.1
      have hv2 := of_decide_eq_false hv.2
      exact .inr (.inl ⟨rfl, rfl, by omega, by omega⟩)
  · have := m2 a1
    have B0 : 1 * ri ≤ s.b * ri := Int.mul_le_mul_of_nonneg_right (by omega) hr0.1
    have eB : (re - s.b + 1) * ri = re * ri - s.b * ri + ri := by rw [Int.add_mul, Int.sub_mul]; omega
    rw [eB] at a5 a6
    refine ⟨by omega, fun e _ _ => ?_⟩
    have ea : (tclip lt ht s).a = 1 := by show clip s.a 0 4 = 1; rw [a2]; rfl
    have eb : (tclip lt ht s).b = s.b := by show clip s.b 0 64 = s.b; unfold clip; omega
    have e9 : max (wr (s.b - 1)) 0 = s.b - 1 := by rw [wr_id (by omega) (by omega)]; omega
    rw [tstep, tstep1, if_neg (by rw [show (tclip lt ht s).o = false from a1]; decide), if_pos (by rw [ea]; decide), ea, eb, e9]
    by_cases hb : s.b - 1 = 0
    · refine .inl ⟨decide_eq_true hb, by omega, by omega⟩
    · have eB' : (re - (s.b - 1) + 1) * ri = re * ri - s.b * ri + 2 * ri := by rw [show re - (s.b - 1) + 1 = re - s.b + 2 by omega, Int.add_mul, Int.sub_mul]
      refine .inr (.inr ⟨decide_eq_false hb, rfl, by show 0 < s.b - 1; omega, by show s.b - 1 ≤ re; omega, ?_, ?_⟩)
      · show -(cu + tol + (re - (s.b - 1) + 1) * ri) ≤ v'
        omega
      · show v' ≤ cu + tol + (re - (s.b - 1) + 1) * ri
        omega
/-- The moves. -/
theorem openMv {l : List AV} {d : Nat} (h : Arg E0 (d + 4) 49 l) : ∃ k f, ∃ c e : Nat → Int, l = [.sl 2 k f] ∧ (∀ i j, i < k → j < 2 → f i j = nth [.int .i64 (c i), .int .i64 (e i)] j) := by
  obtain ⟨k, f, rfl, hk, hf⟩ := h
  have hz : ∀ i, i < k → f i 0 = .int .i64 (asI (f i 0)) ∧ f i 1 = .int .i64 (asI (f i 1)) := fun i hi => by
    obtain ⟨_, _, h0, ⟨a, rfl, _⟩, _, _, rfl, ⟨b, rfl, _⟩, rfl⟩ := hf i hi
    have h0 : [f i 0, f i 1] = [AV.int .i64 a, AV.int .i64 b] := h0
    injection h0 with h1 h2
    injection h2 with h2 _
    rw [h1, h2]
    exact ⟨rfl, rfl⟩
  refine ⟨k, f, fun i => asI (f i 0), fun i => asI (f i 1), rfl, fun i j hi hj => ?_⟩
  match j, hj with
  | 0, _ => exact (hz i hi).1
  | 1, _ => exact (hz i hi).2
set_option maxHeartbeats 4000000 in
theorem law9 (avs : List AV) (H : ArgAll E0 9 [23, 48, 49] avs) : FnOK Try.prog TE 9 avs (.bit true) := by
  obtain ⟨l, m, o, hl, hm, ho, rfl⟩ := argAll3 H
  obtain ⟨cu, lo, hi, re, lt, ht, rfl, _⟩ := openC hl
  obtain ⟨_, _, rfl, ⟨x0, rfl, _⟩, _, _, rfl, ⟨x1, rfl, _⟩, rfl⟩ := hm
  obtain ⟨n, f, ch, er, rfl, hx⟩ := openMv ho
  show FnOK Try.prog TE 9 [.agg [.int .i64 cu, .int .i64 lo, .int .i64 hi, .int .i64 re, .int .i64 lt, .int .i64 ht], .agg [.int .i64 x0, .int .i64 x1], .sl 2 n f] (.bit true)
  refine FnOK.args ?_ (m := [.agg [.int .i64 cu, .int .i64 lo, .int .i64 hi, .int .i64 re, .int .i64 lt, .int .i64 ht], .agg [.int .i64 x0, .int .i64 x1], .sl 2 n fun i j => nth [.int .i64 (ch i), .int .i64 (er i)] j]) ⟨.refl, .refl, .slL rfl fun i j hi hj => .of_eq (hx i j hi hj), trivial⟩
  clear H hl ho hx
  refine fn_ofF tabsOK (specOK_cons ok12 (specOK_cons ok14 (specOK_cons ok16 (specOK_cons ok18 (specOK_cons ok19 (specOK_cons ok22 specOK_nil)))))) mixed Try.func9 (by kernel_rfl) ?_
  refine Brn.mk (fun h1 => AVle.bit rfl) (fun h1 => ?_)
  have h1 : tchk cu lo hi re lt ht = 0 := ndF h1
  refine Brn.mk (fun h3 => AVle.bit rfl) (fun h3 => ?_)
  have h3 : ¬ 300 < (n : Int) := of_decide_eq_false h3
  obtain ⟨c1, c2, c3, c4, c5⟩ := tchk_zero h1
  have e : ∀ t, okT (tchk cu lo hi re lt ht) t = t := fun t => by rw [okT, if_pos h1]
  obtain ⟨tol, htol⟩ : ∃ tol, tol = max 0 (min x0 16777216) := ⟨_, rfl⟩
  obtain ⟨ri, hri⟩ : ∃ ri, ri = max 0 (min x1 16777216) := ⟨_, rfl⟩
  have ht0 : 0 ≤ tol ∧ tol ≤ 16777216 := by omega
  have hr0 : 0 ≤ ri ∧ ri ≤ 16777216 := by omega
  have hP : peakE (tchk cu lo hi re lt ht) tol ri = 0 := by
    rw [peakE, if_pos h1, riseE, if_neg]
    simp only [outB, Bool.or_eq_true, decide_eq_true_eq]
    omega
  have R0 : 0 ≤ re * ri := Int.mul_nonneg c3.1 hr0.1
  have R1 : re * ri ≤ 64 * 16777216 := by
    have a1 : re * ri ≤ 64 * ri := Int.mul_le_mul_of_nonneg_right c3.2 hr0.1
    omega
  have eR : (re + 1) * ri = re * ri + ri := by rw [Int.add_mul]; omega
  have hM : okI (peakE (tchk cu lo hi re lt ht) tol ri) (peakI cu re tol ri) = cu + tol + (re + 1) * ri := by
    rw [hP, okI, if_pos rfl, peakI, wr_id (n := cu + tol) (by omega) (by omega), wr_id (n := re + 1) (by omega) (by omega), wr_id (n := (re + 1) * ri) (by omega) (by omega), wr_id (by omega) (by omega)]
  refine Chk.mk rfl (Chk.mk rfl ?_)
  refine Brn.mk (fun p => absurd (show peakE (tchk cu lo hi re lt ht) (max 0 (min x0 16777216)) (max 0 (min x1 16777216)) = 0 by rw [← htol, ← hri]; exact hP) (ndT p)) (fun _ => ?_)
  refine LoopOK.mk ⟨{ y : Nat × TS × Int // y.1 ≤ n ∧ InvC cu tol ri re y.2.1 y.2.2 }, fun y => mkSt [(2, .sl 2 n fun i j => nth [.int .i64 (ch i), .int .i64 (er i)] j), (3, .loc 3 0), (7, .int .i64 tol), (8, .int .i64 ri), (9, .int .i64 (cu + tol + (re + 1) * ri)), (11, .loc 11 0), (12, .int .i64 y.1.2.2), (13, .int .i64 y.1.1)]
      [(3, ⟨23, 6, 1, fun _ j => nth [.int .i64 cu, .int .i64 lo, .int .i64 hi, .int .i64 re, .int .i64 lt, .int .i64 ht] j, 0, true⟩), (11, ⟨32, 5, 1, fun _ j => nth y.1.2.1.l j, 0, true⟩)],
      fun y => n - y.1.1, ⟨⟨(0, .zero, 0), by show 0 ≤ n; omega, .inr (.inl ⟨rfl, rfl, by show -(cu + tol) ≤ 0; omega, by show 0 ≤ cu + tol; omega⟩)⟩, ?_⟩, ?_⟩
  · refine wk_of [(3, some 3), (11, some 11)] rfl ⟨⟨rfl, rfl⟩, rfl, ⟨congrArg (AV.int .i64) htol.symm, rfl⟩, ⟨congrArg (AV.int .i64) hri.symm, rfl⟩, ⟨?_, rfl⟩, rfl, ⟨rfl, rfl⟩, ⟨rfl, rfl⟩, trivial⟩ ⟨RowLe.fin rfl rfl rfl rfl rfl ?_, RowLe.fin rfl rfl rfl rfl rfl ?_, trivial⟩
    · rw [← hM, htol, hri]; rfl
    all_goals (repeat' first | exact trivial | exact ⟨by kernel_rfl, by kernel_rfl⟩ | exact Or.inr (by kernel_rfl) | (show _ = _; kernel_rfl) | refine ⟨?_, ?_⟩)
  rintro ⟨⟨i, s, v⟩, hin, hI⟩
  have hin : i ≤ n := hin
  have hI : InvC cu tol ri re s v := hI
  have vb : -(cu + tol + (re + 1) * ri) ≤ v ∧ v ≤ cu + tol + (re + 1) * ri := by
    rcases hI with ⟨_, a2, a3⟩ | ⟨_, _, a3, a4⟩ | ⟨_, _, a3, a4, a5, a6⟩
    · exact ⟨a2, a3⟩
    · omega
    · have B0 : 1 * ri ≤ s.b * ri := Int.mul_le_mul_of_nonneg_right (by omega) hr0.1
      have eB : (re - s.b + 1) * ri = re * ri - s.b * ri + ri := by rw [Int.add_mul, Int.sub_mul]; omega
      rw [eB] at a5 a6
      omega
  refine Brn.mk (fun h => ?_) (fun _ => AVle.bit rfl)
  have h : (i : Int) < n := of_decide_eq_true h
  have hb : (0 : Int) ≤ (i : Int) ∧ (i : Int) < (n : Int) := ⟨by omega, h⟩
  refine Chk.mk hb ?_
  have nri : wr (0 - ri) = -ri := by rw [wr_id (by omega) (by omega)]; omega
  have ntol : wr (0 - tol) = -tol := by rw [wr_id (by omega) (by omega)]; omega
  have nv : wr (0 - v) = -v := by rw [wr_id (by omega) (by omega)]; omega
  have nM : wr (0 - (cu + tol + (re + 1) * ri)) = -(cu + tol + (re + 1) * ri) := by rw [wr_id (by omega) (by omega)]; omega
  have n1 : wr (v + max (wr (0 - ri)) (min (ch i) ri)) = v + max (-ri) (min (ch i) ri) := by rw [nri, wr_id (by omega) (by omega)]
  refine Brn.mk (fun so => ?_) (fun so => ?_)
  · have so : s.o = true := so
    obtain ⟨k1, k2⟩ := inv_next (v' := max (min v (wr (0 - v))) (min (wr (v + max (wr (0 - ri)) (min (ch i) ri))) (max v (wr (0 - v))))) h1 ht0 hr0 hI (fun _ => by rw [nv]; omega) (fun q => by rw [so] at q; cases q)
    generalize hw : max (min v (wr (0 - v))) (min (wr (v + max (wr (0 - ri)) (min (ch i) ri))) (max v (wr (0 - v)))) = w at k1 k2
    refine Brn.mk (fun p => absurd (show cu + tol + (re + 1) * ri < max (min v (wr (0 - v))) (min (wr (v + max (wr (0 - ri)) (min (ch i) ri))) (max v (wr (0 - v)))) from of_decide_eq_true p) (by rw [hw]; omega)) (fun _ => ?_)
    refine Brn.mk (fun p => absurd (show max (min v (wr (0 - v))) (min (wr (v + max (wr (0 - ri)) (min (ch i) ri))) (max v (wr (0 - v)))) < wr (0 - (cu + tol + (re + 1) * ri)) from of_decide_eq_true p) (by rw [hw, nM]; omega)) (fun _ => ?_)
    refine Chk.mk hb ?_
    refine Brn.mk (fun p => absurd h1 (ndT p)) (fun _ => ?_)
    have k3 := k2 (max (-tol) (min (er i) tol)) (by omega) (by omega)
    rw [← e (tstep cu lo hi re lt ht s 0 (w + max (-tol) (min (er i) tol)) 0 lo (any6 false false false false false false))] at k3
    have ew : wr (w + max (wr (0 - tol)) (min (er i) tol)) = w + max (-tol) (min (er i) tol) := by rw [ntol, wr_id (by omega) (by omega)]
    rw [← ew, ← hw] at k3
    refine ⟨⟨(i + 1, okT (tchk cu lo hi re lt ht) (tstep cu lo hi re lt ht s 0 (wr (max (min v (wr (0 - v))) (min (wr (v + max (wr (0 - ri)) (min (ch i) ri))) (max v (wr (0 - v)))) + max (wr (0 - tol)) (min (er i) tol))) 0 lo (any6 false false false false false false)), max (min v (wr (0 - v))) (min (wr (v + max (wr (0 - ri)) (min (ch i) ri))) (max v (wr (0 - v))))), by show i + 1 ≤ n; omega, k3⟩, by show n - (i + 1) < n - i; omega, ?_⟩
    refine wk_of [(3, some 3), (11, some 11)] rfl ⟨⟨rfl, rfl⟩, rfl, ⟨rfl, rfl⟩, ⟨rfl, rfl⟩, ⟨rfl, rfl⟩, rfl, ⟨rfl, rfl⟩, ⟨wrS (i := i) (by omega), rfl⟩, trivial⟩ ⟨RowLe.fin rfl rfl rfl rfl rfl ?_, RowLe.fin rfl rfl rfl rfl rfl ?_, trivial⟩
    all_goals (repeat' first | exact trivial | exact ⟨by kernel_rfl, by kernel_rfl⟩ | exact Or.inr (by kernel_rfl) | (show _ = _; kernel_rfl) | refine ⟨?_, ?_⟩)
  · have so : s.o = false := so
    obtain ⟨k1, k2⟩ := inv_next (v' := wr (v + max (wr (0 - ri)) (min (ch i) ri))) h1 ht0 hr0 hI (fun q => by rw [so] at q; cases q) (fun _ => by rw [n1]; omega)
    generalize hw : wr (v + max (wr (0 - ri)) (min (ch i) ri)) = w at k1 k2
    refine Brn.mk (fun p => absurd (show cu + tol + (re + 1) * ri < wr (v + max (wr (0 - ri)) (min (ch i) ri)) from of_decide_eq_true p) (by rw [hw]; omega)) (fun _ => ?_)
    refine Brn.mk (fun p => absurd (show wr (v + max (wr (0 - ri)) (min (ch i) ri)) < wr (0 - (cu + tol + (re + 1) * ri)) from of_decide_eq_true p) (by rw [hw, nM]; omega)) (fun _ => ?_)
    refine Chk.mk hb ?_
    refine Brn.mk (fun p => absurd h1 (ndT p)) (fun _ => ?_)
    have k3 := k2 (max (-tol) (min (er i) tol)) (by omega) (by omega)
    rw [← e (tstep cu lo hi re lt ht s 0 (w + max (-tol) (min (er i) tol)) 0 lo (any6 false false false false false false))] at k3
    have ew : wr (w + max (wr (0 - tol)) (min (er i) tol)) = w + max (-tol) (min (er i) tol) := by rw [ntol, wr_id (by omega) (by omega)]
    rw [← ew, ← hw] at k3
    refine ⟨⟨(i + 1, okT (tchk cu lo hi re lt ht) (tstep cu lo hi re lt ht s 0 (wr (wr (v + max (wr (0 - ri)) (min (ch i) ri)) + max (wr (0 - tol)) (min (er i) tol))) 0 lo (any6 false false false false false false)), wr (v + max (wr (0 - ri)) (min (ch i) ri))), by show i + 1 ≤ n; omega, k3⟩, by show n - (i + 1) < n - i; omega, ?_⟩
    refine wk_of [(3, some 3), (11, some 11)] rfl ⟨⟨rfl, rfl⟩, rfl, ⟨rfl, rfl⟩, ⟨rfl, rfl⟩, ⟨rfl, rfl⟩, rfl, ⟨rfl, rfl⟩, ⟨wrS (i := i) (by omega), rfl⟩, trivial⟩ ⟨RowLe.fin rfl rfl rfl rfl rfl ?_, RowLe.fin rfl rfl rfl rfl rfl ?_, trivial⟩
    all_goals (repeat' first | exact trivial | exact ⟨by kernel_rfl, by kernel_rfl⟩ | exact Or.inr (by kernel_rfl) | (show _ = _; kernel_rfl) | refine ⟨?_, ?_⟩)

theorem lifted9 (os : Os) (started : os.Started) (H : Type) (enc : TypeId × Value → H) :
    ReturnsInHanded {} Try.checked os 9 .any (Rows.tripBoundsSpec.pre6 enc Try.prog Try.f9 Rows.tripBoundsRow.domain false) (Rows.tripBoundsSpec.post enc Try.prog Try.f9 false true false false) := by
  refine returnsInHanded_of_change (C := Try.checked) own0 started (by kernel_rfl) Try.func9
    (ChangeSpec.witness6 (enc := enc) (C := Try.checked) false ⟨#[], #[.agg #[.int .i64 0, .int .i64 0, .int .i64 0, .int .i64 0, .int .i64 0, .int .i64 0], .agg #[.int .i64 0, .int .i64 0], .slice none 0 0], []⟩ 8 (by kernel_rfl) (by kernel_rfl) (by kernel_rfl) (by kernel_rfl)) ?_
  intro W base args ds gs before hval hW _ _
  exact law_contract tabE0 (d := 9) (tb := 4) [23, 48, 49] (by kernel_rfl) (by kernel_rfl) (by kernel_rfl) rfl laidOut0 (by kernel_rfl) (by kernel_rfl)
    (fun H ds h => match ds, h with | [_, _, _], _ => rfl) law9 hval hW

theorem TripBounds_proved : Rows.TripBoundsSaid :=
  OpenClaim.holds_of_wide (p := Try.pinned) (s := Rows.tripBoundsSpec) (c := Rows.tripBoundsRow) 9 Try.f9 rfl rfl rfl rfl rfl rfl rfl ⟨rfl, rfl, rfl, rfl, rfl⟩ rfl rfl rfl rfl rfl (by kernel_rfl) Try.func9 (by kernel_rfl)
    (of_decide_eq_true (by kernel_rfl)) (by unfold Func.isWrapper; rw [if_neg (of_decide_eq_false (by kernel_rfl))]; exact ⟨rfl, rfl⟩)
    (fun os started H enc _ => lifted9 os started H enc)
end
end Go.Proofs.Ytalppnldnahmbaa
