/- Chapter 44: a link voltage that begins at most at High, rises by at most rise from tick to tick, does not rise while the switches are off, and is shown within the tolerance, never exceeds VoltPeak. Conditions: none. -/
import Derived.Test.YtalppnldnahmbaaTrp4
import Derived.Test.YtalppnldnahmbaaRows
import Derived.ProofKit
namespace Go.Proofs.Ytalppnldnahmbaa
open Go Go.Proofs.Ytalppnldnahmbaa.AI Go.Proofs Go.Proofs.Ytalppnldnahmbaa.Img Go.ChangeShapes Go.WideShapes Go.ChangeAt Go.RowKit
noncomputable section
set_option maxRecDepth 100000

theorem neg_id {cu : Int} (h : 0 ≤ cu ∧ cu ≤ 2097152) : wr (0 - cu) = -cu := by rw [wr_id (by omega) (by omega)]; omega
theorem ovr_no {cu x : Int} (h : 0 ≤ cu ∧ cu ≤ 2097152) (h1 : -cu ≤ x) (h2 : x ≤ cu) : ovr cu x = false := by
  rw [ovr, neg_id h, decide_eq_false (by omega), decide_eq_false (by omega)]; rfl
/-- What holds of the state and the voltage after each tick. -/
def InvV (hi tol ri re ht : Int) (s : TS) (v : Int) : Prop :=
  0 ≤ v ∧ ((s.o = true ∧ v ≤ hi + tol + (ht + re) * ri) ∨
  (s.o = false ∧ s.a = 0 ∧ 0 ≤ s.d ∧ s.d < ht ∧ v ≤ hi + tol + s.d * ri) ∨
  (s.o = false ∧ 1 ≤ s.a ∧ s.a ≤ 4 ∧ 0 < s.b ∧ s.b ≤ re ∧ v ≤ hi + tol + (ht + re - s.b) * ri))
theorem tcause_zero {ds : Bool} {c d lt ht : Int} (h : tcause false ds c d lt ht = 0) : ¬ d = ht := by
  intro hd
  unfold tcause at h
  rw [if_neg (by decide)] at h
  split at h
  · cases h
  · split at h
    · cases h
    · cases h
theorem volt_next {cu lo hi re lt ht tol ri v v' : Int} {s : TS} (h : tchk cu lo hi re lt ht = 0) (_ : 0 ≤ tol ∧ tol ≤ 16777216) (hr0 : 0 ≤ ri ∧ ri ≤ 16777216) (hI : InvV hi tol ri re ht s v)
    (m0 : 0 ≤ v') (m1 : s.o = true → v' ≤ v) (m2 : s.o = false → v' ≤ v + ri) :
    v' ≤ hi + tol + (ht + re) * ri ∧ ∀ e, -tol ≤ e → InvV hi tol ri re ht (tstep cu lo hi re lt ht s 0 0 0 (v' + e) (any6 false false false false false false)) v' := by
  obtain ⟨c1, c2, c3, c4, c5⟩ := tchk_zero h
  have R0 : 0 ≤ re * ri := Int.mul_nonneg c3.1 hr0.1
  have T0 : 0 ≤ ht * ri := Int.mul_nonneg (by omega) hr0.1
  have eP : (ht + re) * ri = ht * ri + re * ri := Int.add_mul ..
  rw [eP]
  obtain ⟨_, hI⟩ := hI
  rcases hI with ⟨a1, a2⟩ | ⟨a1, a2, a3, a4, a5⟩ | ⟨a1, a2, a3, a4, a5, a6⟩
  · rw [eP] at a2
    have := m1 a1
    refine ⟨by omega, fun e _ => ⟨m0, .inl ⟨?_, by rw [eP]; omega⟩⟩⟩
    rw [tstep, tstep1, if_pos (show (tclip lt ht s).o = true from a1)]
    exact a1
  · have := m2 a1
    have D1 : (s.d + 1) * ri ≤ ht * ri := Int.mul_le_mul_of_nonneg_right (by omega) hr0.1
    have eD : (s.d + 1) * ri = s.d * ri + ri := by rw [Int.add_mul]; omega
    refine ⟨by omega, fun e e1 => ⟨m0, ?_⟩⟩
    have ea : (tclip lt ht s).a = 0 := by show clip s.a 0 4 = 0; rw [a2]; rfl
    have ed : (tclip lt ht s).d = s.d := by show clip s.d 0 ht = s.d; unfold clip; omega
    have eo : over3 cu 0 0 0 = false := by rw [over3, ovr_no c1 (by omega) (by omega)]; rfl
    rw [tstep, tstep1, if_neg (by rw [show (tclip lt ht s).o = false from a1]; decide), if_neg (by rw [ea]; decide), eo, ed]
    generalize hC : cnt (tclip lt ht s).c (decide (v' + e < lo)) lt = C
    have hD : (hi < v' + e ∧ cnt s.d (decide (hi < v' + e)) ht = s.d + 1) ∨ (v' + e ≤ hi ∧ cnt s.d (decide (hi < v' + e)) ht = 0) := by
      by_cases q : hi < v' + e
      · refine .inl ⟨q, ?_⟩
        rw [cnt, if_pos (decide_eq_true q), wr_id (by omega) (by omega)]
        omega
      · refine .inr ⟨by omega, ?_⟩
        rw [cnt, if_neg (by rw [decide_eq_false q]; decide)]
    generalize cnt s.d (decide (hi < v' + e)) ht = D at hD
    generalize any6 false false false false false false = ds
    have hr := tcause_range false ds C D lt ht
    by_cases hk : tcause false ds C D lt ht = 0
    · rw [if_neg (fun q => q hk)]
      have hne := tcause_zero hk
      refine .inr (.inl ⟨rfl, rfl, by show 0 ≤ D; omega, by show D < ht; omega, ?_⟩)
      show v' ≤ hi + tol + D * ri
      rcases hD with ⟨_, hD⟩ | ⟨q, hD⟩
      · rw [hD, eD]; omega
      · rw [hD, Int.zero_mul]; omega
    · rw [if_pos hk]
      by_cases hre : re = 0
      · exact .inl ⟨decide_eq_true hre, by rw [eP]; omega⟩
      · refine .inr (.inr ⟨decide_eq_false hre, by show 1 ≤ tcause false ds C D lt ht; omega, hr.2, by show 0 < re; omega, Int.le_refl _, ?_⟩)
        show v' ≤ hi + tol + (ht + re - re) * ri
        rw [show ht + re - re = ht by omega]; omega
  · have := m2 a1
    have B0 : 1 * ri ≤ s.b * ri := Int.mul_le_mul_of_nonneg_right (by omega) hr0.1
    have eB : (ht + re - s.b) * ri = ht * ri + re * ri - s.b * ri := by rw [Int.sub_mul, Int.add_mul]
    rw [eB] at a6
    refine ⟨by omega, fun e _ => ⟨m0, ?_⟩⟩
    have ea : (tclip lt ht s).a = s.a := by show clip s.a 0 4 = s.a; unfold clip; omega
    have eb : (tclip lt ht s).b = s.b := by show clip s.b 0 64 = s.b; unfold clip; omega
    have e9 : max (wr (s.b - 1)) 0 = s.b - 1 := by rw [wr_id (by omega) (by omega)]; omega
    rw [tstep, tstep1, if_neg (by rw [show (tclip lt ht s).o = false from a1]; decide), if_pos (by rw [ea]; omega), ea, eb, e9]
    by_cases hb : s.b - 1 = 0
    · exact .inl ⟨decide_eq_true hb, by rw [eP]; omega⟩
    · refine .inr (.inr ⟨decide_eq_false hb, a2, a3, by show 0 < s.b - 1; omega, by show s.b - 1 ≤ re; omega, ?_⟩)
      show v' ≤ hi + tol + (ht + re - (s.b - 1)) * ri
      rw [show ht + re - (s.b - 1) = ht + re - s.b + 1 by omega, Int.add_mul, eB]
      omega
/-- The moves. -/
theorem openMv {l : List AV} {d : Nat} (h : Arg E0 (d + 4) 49 l) : ∃ k f, ∃ c e : Nat → Int, l = [.sl 2 k f] ∧ (∀ i j, i < k → j < 2 → f i j = nth [.int .i64 (c i), .int .i64 (e i)] j) := by
  obtain ⟨k, f, rfl, hk, hf⟩ := h
  have hz : ∀ i, i < k → f i 0 = .int .i64 (asI (f i 0)) ∧ f i 1 = .int .i64 (asI (f i 1)) := fun i hi => by
    obtain ⟨_, _, h0, ⟨a, rfl, _⟩, _, _, rfl, ⟨b, rfl, _⟩, rfl⟩ := hf i hi
    have h0 : [f i 0, f i 1] = [AV.int .i64 a, AV.int .i64 b] := h0
    injection h0 with h1 h2
    injection h2 with h2 _
    rw [h1, h2]
    exact ⟨rfl, rfl⟩
  refine ⟨k, f, fun i => asI (f i 0), fun i => asI (f i 1), rfl, fun i j hi hj => ?_⟩
  match j, hj with
  | 0, _ => exact (hz i hi).1
  | 1, _ => exact (hz i hi).2
set_option maxHeartbeats 4000000 in
theorem law10 (avs : List AV) (H : ArgAll E0 9 [23, 33, 49] avs) : FnOK Try.prog TE 10 avs (.bit true) := by
  obtain ⟨l, m, o, hl, hm, ho, rfl⟩ := argAll3 H
  obtain ⟨cu, lo, hi, re, lt, ht, rfl, _⟩ := openC hl
  obtain ⟨_, _, rfl, ⟨x0, rfl, _⟩, _, _, rfl, ⟨x1, rfl, _⟩, _, _, rfl, ⟨x2, rfl, _⟩, rfl⟩ := hm
  obtain ⟨n, f, ch, er, rfl, hx⟩ := openMv ho
  show FnOK Try.prog TE 10 [.agg [.int .i64 cu, .int .i64 lo, .int .i64 hi, .int .i64 re, .int .i64 lt, .int .i64 ht], .agg [.int .i64 x0, .int .i64 x1, .int .i64 x2], .sl 2 n f] (.bit true)
  refine FnOK.args ?_ (m := [.agg [.int .i64 cu, .int .i64 lo, .int .i64 hi, .int .i64 re, .int .i64 lt, .int .i64 ht], .agg [.int .i64 x0, .int .i64 x1, .int .i64 x2], .sl 2 n fun i j => nth [.int .i64 (ch i), .int .i64 (er i)] j]) ⟨.refl, .refl, .slL rfl fun i j hi hj => .of_eq (hx i j hi hj), trivial⟩
  clear H hl ho hx
  refine fn_ofF tabsOK (specOK_cons ok12 (specOK_cons ok14 (specOK_cons ok16 (specOK_cons ok18 (specOK_cons ok19 (specOK_cons ok23 specOK_nil)))))) mixed Try.func10 (by kernel_rfl) ?_
  refine Brn.mk (fun h1 => AVle.bit rfl) (fun h1 => ?_)
  have h1 : tchk cu lo hi re lt ht = 0 := ndF h1
  refine Brn.mk (fun h3 => AVle.bit rfl) (fun h3 => ?_)
  have h3 : ¬ 300 < (n : Int) := of_decide_eq_false h3
  obtain ⟨c1, c2, c3, c4, c5⟩ := tchk_zero h1
  have e : ∀ t, okT (tchk cu lo hi re lt ht) t = t := fun t => by rw [okT, if_pos h1]
  obtain ⟨tol, htol⟩ : ∃ tol, tol = max 0 (min x0 16777216) := ⟨_, rfl⟩
  obtain ⟨ri, hri⟩ : ∃ ri, ri = max 0 (min x1 16777216) := ⟨_, rfl⟩
  have ht0 : 0 ≤ tol ∧ tol ≤ 16777216 := by omega
  have hr0 : 0 ≤ ri ∧ ri ≤ 16777216 := by omega
  have hP : peakE (tchk cu lo hi re lt ht) tol ri = 0 := by
    rw [peakE, if_pos h1, riseE, if_neg]
    simp only [outB, Bool.or_eq_true, decide_eq_true_eq]
    omega
  have R0 : 0 ≤ (ht + re) * ri := Int.mul_nonneg (by omega) hr0.1
  have R1 : (ht + re) * ri ≤ 4160 * 16777216 := by
    have a1 : (ht + re) * ri ≤ 4160 * ri := Int.mul_le_mul_of_nonneg_right (by omega) hr0.1
    omega
  have hM : okI (peakE (tchk cu lo hi re lt ht) tol ri) (voltI hi re ht tol ri) = hi + tol + (ht + re) * ri := by
    rw [hP, okI, if_pos rfl, voltI, wr_id (n := hi + tol) (by omega) (by omega), wr_id (n := ht + re) (by omega) (by omega), wr_id (n := (ht + re) * ri) (by omega) (by omega), wr_id (by omega) (by omega)]
  refine Chk.mk rfl (Chk.mk rfl ?_)
  refine Brn.mk (fun p => absurd (show peakE (tchk cu lo hi re lt ht) (max 0 (min x0 16777216)) (max 0 (min x1 16777216)) = 0 by rw [← htol, ← hri]; exact hP) (ndT p)) (fun _ => ?_)
  refine Chk.mk rfl ?_
  refine LoopOK.mk ⟨{ y : Nat × TS × Int // y.1 ≤ n ∧ InvV hi tol ri re ht y.2.1 y.2.2 }, fun y => mkSt [(2, .sl 2 n fun i j => nth [.int .i64 (ch i), .int .i64 (er i)] j), (3, .loc 3 0), (7, .int .i64 tol), (8, .int .i64 ri), (9, .int .i64 (hi + tol + (ht + re) * ri)), (11, .loc 11 0), (12, .int .i64 y.1.2.2), (13, .int .i64 y.1.1)]
      [(3, ⟨23, 6, 1, fun _ j => nth [.int .i64 cu, .int .i64 lo, .int .i64 hi, .int .i64 re, .int .i64 lt, .int .i64 ht] j, 0, true⟩), (11, ⟨32, 5, 1, fun _ j => nth y.1.2.1.l j, 0, true⟩)],
      fun y => n - y.1.1, ⟨⟨(0, .zero, max 0 (min x2 hi)), by show 0 ≤ n; omega, by show 0 ≤ max 0 (min x2 hi); omega, .inr (.inl ⟨rfl, rfl, Int.le_refl _, by show 0 < ht; omega, by show max 0 (min x2 hi) ≤ hi + tol + 0 * ri; rw [Int.zero_mul]; omega⟩)⟩, ?_⟩, ?_⟩
  · refine wk_of [(3, some 3), (11, some 11)] rfl ⟨⟨rfl, rfl⟩, rfl, ⟨congrArg (AV.int .i64) htol.symm, rfl⟩, ⟨congrArg (AV.int .i64) hri.symm, rfl⟩, ⟨?_, rfl⟩, rfl, ⟨rfl, rfl⟩, ⟨rfl, rfl⟩, trivial⟩ ⟨RowLe.fin rfl rfl rfl rfl rfl ?_, RowLe.fin rfl rfl rfl rfl rfl ?_, trivial⟩
    · rw [← hM, htol, hri]; rfl
    all_goals (repeat' first | exact trivial | exact ⟨by kernel_rfl, by kernel_rfl⟩ | exact Or.inr (by kernel_rfl) | (show _ = _; kernel_rfl) | refine ⟨?_, ?_⟩)
  rintro ⟨⟨i, s, v⟩, hin, hI⟩
  have hin : i ≤ n := hin
  have hI : InvV hi tol ri re ht s v := hI
  have vb : 0 ≤ v ∧ v ≤ hi + tol + (ht + re) * ri := by
    refine ⟨hI.1, ?_⟩
    have eP : (ht + re) * ri = ht * ri + re * ri := Int.add_mul ..
    have R2 : 0 ≤ re * ri := Int.mul_nonneg c3.1 hr0.1
    rcases hI.2 with ⟨_, a2⟩ | ⟨_, _, a3, a4, a5⟩ | ⟨_, _, _, a4, a5, a6⟩
    · exact a2
    · have D1 : s.d * ri ≤ ht * ri := Int.mul_le_mul_of_nonneg_right (by omega) hr0.1
      omega
    · have B0 : 1 * ri ≤ s.b * ri := Int.mul_le_mul_of_nonneg_right (by omega) hr0.1
      have eB : (ht + re - s.b) * ri = ht * ri + re * ri - s.b * ri := by rw [Int.sub_mul, Int.add_mul]
      rw [eB] at a6
      omega
  refine Brn.mk (fun h => ?_) (fun _ => AVle.bit rfl)
  have h : (i : Int) < n := of_decide_eq_true h
  have hb : (0 : Int) ≤ (i : Int) ∧ (i : Int) < (n : Int) := ⟨by omega, h⟩
  refine Chk.mk hb ?_
  have ntol : wr (0 - tol) = -tol := by rw [wr_id (by omega) (by omega)]; omega
  have n1 : wr (v + max (-16777216) (min (ch i) ri)) = v + max (-16777216) (min (ch i) ri) := by rw [wr_id (by omega) (by omega)]
  have n2 : wr (v + min (max (-16777216) (min (ch i) ri)) 0) = v + min (max (-16777216) (min (ch i) ri)) 0 := by rw [wr_id (by omega) (by omega)]
  refine Brn.mk (fun so => ?_) (fun so => ?_)
  · have so : s.o = true := so
    obtain ⟨k1, k2⟩ := volt_next (v' := max 0 (wr (v + min (max (-16777216) (min (ch i) ri)) 0))) h1 ht0 hr0 hI (by omega) (fun _ => by rw [n2]; omega) (fun q => by rw [so] at q; cases q)
    have w0 : 0 ≤ max 0 (wr (v + min (max (-16777216) (min (ch i) ri)) 0)) := by omega
    generalize hw : max 0 (wr (v + min (max (-16777216) (min (ch i) ri)) 0)) = w at k1 k2 w0
    refine Brn.mk (fun p => absurd (show hi + tol + (ht + re) * ri < max 0 (wr (v + min (max (-16777216) (min (ch i) ri)) 0)) from of_decide_eq_true p) (by rw [hw]; omega)) (fun _ => ?_)
    refine Chk.mk hb ?_
    refine Brn.mk (fun p => absurd h1 (ndT p)) (fun _ => ?_)
    have k3 := k2 (max (-tol) (min (er i) tol)) (by omega)
    rw [← e (tstep cu lo hi re lt ht s 0 0 0 (w + max (-tol) (min (er i) tol)) (any6 false false false false false false))] at k3
    have ew : wr (w + max (wr (0 - tol)) (min (er i) tol)) = w + max (-tol) (min (er i) tol) := by rw [ntol, wr_id (by omega) (by omega)]
    rw [← ew, ← hw] at k3
    refine ⟨⟨(i + 1, okT (tchk cu lo hi re lt ht) (tstep cu lo hi re lt ht s 0 0 0 (wr (max 0 (wr (v + min (max (-16777216) (min (ch i) ri)) 0)) + max (wr (0 - tol)) (min (er i) tol))) (any6 false false false false false false)), max 0 (wr (v + min (max (-16777216) (min (ch i) ri)) 0))), by show i + 1 ≤ n; omega, k3⟩, by show n - (i + 1) < n - i; omega, ?_⟩
    refine wk_of [(3, some 3), (11, some 11)] rfl ⟨⟨rfl, rfl⟩, rfl, ⟨rfl, rfl⟩, ⟨rfl, rfl⟩, ⟨rfl, rfl⟩, rfl, ⟨rfl, rfl⟩, ⟨wrS (i := i) (by omega), rfl⟩, trivial⟩ ⟨RowLe.fin rfl rfl rfl rfl rfl ?_, RowLe.fin rfl rfl rfl rfl rfl ?_, trivial⟩
    all_goals (repeat' first | exact trivial | exact ⟨by kernel_rfl, by kernel_rfl⟩ | exact Or.inr (by kernel_rfl) | (show _ = _; kernel_rfl) | refine ⟨?_, ?_⟩)
  · have so : s.o = false := so
    obtain ⟨k1, k2⟩ := volt_next (v' := max 0 (wr (v + max (-16777216) (min (ch i) ri)))) h1 ht0 hr0 hI (by omega) (fun q => by rw [so] at q; cases q) (fun _ => by rw [n1]; omega)
    have w0 : 0 ≤ max 0 (wr (v + max (-16777216) (min (ch i) ri))) := by omega
    generalize hw : max 0 (wr (v + max (-16777216) (min (ch i) ri))) = w at k1 k2 w0
    refine Brn.mk (fun p => absurd (show hi + tol + (ht + re) * ri < max 0 (wr (v + max (-16777216) (min (ch i) ri))) from of_decide_eq_true p) (by rw [hw]; omega)) (fun _ => ?_)
    refine Chk.mk hb ?_
    refine Brn.mk (fun p => absurd h1 (ndT p)) (fun _ => ?_)
    have k3 := k2 (max (-tol) (min (er i) tol)) (by omega)
    rw [← e (tstep cu lo hi re lt ht s 0 0 0 (w + max (-tol) (min (er i) tol)) (any6 false false false false false false))] at k3
    have ew : wr (w + max (wr (0 - tol)) (min (er i) tol)) = w + max (-tol) (min (er i) tol) := by rw [ntol, wr_id (by omega) (by omega)]
    rw [← ew, ← hw] at k3
    refine ⟨⟨(i + 1, okT (tchk cu lo hi re lt ht) (tstep cu lo hi re lt ht s 0 0 0 (wr (max 0 (wr (v + max (-16777216) (min (ch i) ri))) + max (wr (0 - tol)) (min (er i) tol))) (any6 false false false false false false)), max 0 (wr (v + max (-16777216) (min (ch i) ri)))), by show i + 1 ≤ n; omega, k3⟩, by show n - (i + 1) < n - i; omega, ?_⟩
    refine wk_of [(3, some 3), (11, some 11)] rfl ⟨⟨rfl, rfl⟩, rfl, ⟨rfl, rfl⟩, ⟨rfl, rfl⟩, ⟨rfl, rfl⟩, rfl, ⟨rfl, rfl⟩, ⟨wrS (i := i) (by omega), rfl⟩, trivial⟩ ⟨RowLe.fin rfl rfl rfl rfl rfl ?_, RowLe.fin rfl rfl rfl rfl rfl ?_, trivial⟩
    all_goals (repeat' first | exact trivial | exact ⟨by kernel_rfl, by kernel_rfl⟩ | exact Or.inr (by kernel_rfl) | (show _ = _; kernel_rfl) | refine ⟨?_, ?_⟩)

theorem lifted10 (os : Os) (started : os.Started) (H : Type) (enc : TypeId × Value → H) :
    ReturnsInHanded {} Try.checked os 10 .any (Rows.tripVoltsSpec.pre6 enc Try.prog Try.f10 Rows.tripVoltsRow.domain false) (Rows.tripVoltsSpec.post enc Try.prog Try.f10 false true false false) := by
  refine returnsInHanded_of_change (C := Try.checked) own0 started (by kernel_rfl) Try.func10
    (ChangeSpec.witness6 (enc := enc) (C := Try.checked) false ⟨#[], #[.agg #[.int .i64 0, .int .i64 0, .int .i64 0, .int .i64 0, .int .i64 0, .int .i64 0], .agg #[.int .i64 0, .int .i64 0, .int .i64 0], .slice none 0 0], []⟩ 8 (by kernel_rfl) (by kernel_rfl) (by kernel_rfl) (by kernel_rfl)) ?_
  intro W base args ds gs before hval hW _ _
  exact law_contract tabE0 (d := 9) (tb := 4) [23, 33, 49] (by kernel_rfl) (by kernel_rfl) (by kernel_rfl) rfl laidOut0 (by kernel_rfl) (by kernel_rfl)
    (fun H ds h => match ds, h with | [_, _, _], _ => rfl) law10 hval hW

theorem TripVolts_proved : Rows.TripVoltsSaid :=
  OpenClaim.holds_of_wide (p := Try.pinned) (s := Rows.tripVoltsSpec) (c := Rows.tripVoltsRow) 10 Try.f10 rfl rfl rfl rfl rfl rfl rfl ⟨rfl, rfl, rfl, rfl, rfl⟩ rfl rfl rfl rfl rfl (by kernel_rfl) Try.func10 (by kernel_rfl)
    (of_decide_eq_true (by kernel_rfl)) (by unfold Func.isWrapper; rw [if_neg (of_decide_eq_false (by kernel_rfl))]; exact ⟨rfl, rfl⟩)
    (fun os started H enc _ => lifted10 os started H enc)
end
end Go.Proofs.Ytalppnldnahmbaa
