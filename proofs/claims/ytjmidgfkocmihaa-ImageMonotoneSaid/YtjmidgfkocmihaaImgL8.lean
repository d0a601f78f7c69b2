/- Chapter 45: more heat, power or ambient never makes the image cooler, and never makes Ticks greater. Conditions: none. -/
import Derived.Test.YtjmidgfkocmihaaImgB
import Derived.Test.YtjmidgfkocmihaaRows
import Derived.ProofKit
namespace Go.Proofs.Ytjmidgfkocmihaa
open Go Go.Proofs.Ytjmidgfkocmihaa.AI Go.Proofs Go.Proofs.Ytjmidgfkocmihaa.Img Go.ChangeShapes Go.WideShapes Go.ChangeAt Go.RowKit
noncomputable section
set_option maxRecDepth 100000

theorem chk_zero {g l w t c : Int} (h : chk g l w t c = 0) : 0 ≤ g ∧ g ≤ 65536 ∧ 0 ≤ l ∧ l ≤ 65536 := by
  unfold chk badR at h
  split at h
  · omega
  · rename_i h1
    simp only [Bool.or_eq_true, decide_eq_true_eq, not_or] at h1
    omega
theorem ambR_mono {a b : Int} (h : a ≤ b) : ambR a ≤ ambR b ∧ -549755813888 ≤ ambR a ∧ ambR a ≤ 549755813888 ∧ -549755813888 ≤ ambR b ∧ ambR b ≤ 549755813888 := by
  unfold ambR
  rw [wr_id (by omega) (by omega), wr_id (by omega) (by omega)]
  omega
theorem step_val {g l h p a : Int} (hg : 0 ≤ g ∧ g ≤ 65536) (hl : 0 ≤ l ∧ l ≤ 65536) : stepI g l h p a = hC ((l * ambR a + (65536 - l) * hC h) / 65536 + g * pC p) := by
  have hA := ambR_mono (Int.le_refl a)
  have hH := hC_range h
  have hP : 0 ≤ pC p ∧ pC p ≤ 1073741824 := by unfold pC; omega
  rw [step_eq]
  unfold step45 stepR
  simp only [accR, Int.zero_mul]
  generalize ambR a = A at hA
  generalize hC h = H at hH
  generalize pC p = P at hP
  have e1 : wr (A - H) = A - H := wr_id (by omega) (by omega)
  have m1 : l * (A - H) ≤ 65536 * 1649267441664 := by
    have h1 : l * (A - H) ≤ l * 1649267441664 := Int.mul_le_mul_of_nonneg_left (by omega) hl.1
    omega
  have m2 : -(65536 * 1649267441664) ≤ l * (A - H) := by
    have h1 : l * (-1649267441664) ≤ l * (A - H) := Int.mul_le_mul_of_nonneg_left (by omega) hl.1
    omega
  have m3 : g * P ≤ 65536 * 1073741824 := by
    have h1 : g * P ≤ g * 1073741824 := Int.mul_le_mul_of_nonneg_left (by omega) hg.1
    omega
  have m4 : 0 ≤ g * P := Int.mul_nonneg hg.1 hP.1
  rw [e1, show wr 0 = 0 from rfl, Int.add_zero, wr_idem, wr_id (n := l * (A - H)) (by omega) (by omega), floor_sh ⟨by omega, by omega⟩, sh16_eq, wr_id (n := g * P) (by omega) (by omega)]
  rw [wr_id (n := l * (A - H) / 65536 + g * P) (by omega) (by omega), wr_id (by omega) (by omega)]
  congr 1
  have e2 : l * A + (65536 - l) * H = l * (A - H) + 65536 * H := by
    rw [Int.sub_mul, Int.mul_sub]; omega
  rw [e2]
  omega
theorem hC_mono {x y : Int} (h : x ≤ y) : hC x ≤ hC y := by unfold hC; omega
theorem pC_mono {x y : Int} (h : x ≤ y) : pC x ≤ pC y := by unfold pC; omega
theorem step_mono {g l h p a h' p' a' : Int} (hg : 0 ≤ g ∧ g ≤ 65536) (hl : 0 ≤ l ∧ l ≤ 65536) (h1 : h ≤ h') (h2 : p ≤ p') (h3 : a ≤ a') : stepI g l h p a ≤ stepI g l h' p' a' := by
  rw [step_val hg hl, step_val hg hl]
  apply hC_mono
  have i1 : l * ambR a ≤ l * ambR a' := Int.mul_le_mul_of_nonneg_left (ambR_mono h3).1 hl.1
  have i2 : (65536 - l) * hC h ≤ (65536 - l) * hC h' := Int.mul_le_mul_of_nonneg_left (hC_mono h1) (by omega)
  have i3 : g * pC p ≤ g * pC p' := Int.mul_le_mul_of_nonneg_left (pC_mono h2) hg.1
  have i4 : (l * ambR a + (65536 - l) * hC h) / 65536 ≤ (l * ambR a' + (65536 - l) * hC h') / 65536 := Int.ediv_le_ediv (by decide) (by omega)
  omega
theorem ticks_range {st : Int → Int} {hot : Int → Bool} : ∀ (k n : Nat) (h : Int), (n : Int) ≤ ticks st hot k n h ∧ ticks st hot k n h ≤ n + k
  | 0, n, h => ⟨Int.le_refl _, by simp [ticks]⟩
  | k + 1, n, h => by
    rw [ticks]
    have := ticks_range (st := st) (hot := hot) k (n + 1) (st h)
    split <;> omega
theorem ticks_mono {st st' : Int → Int} {hot : Int → Bool} (h1 : ∀ h h', h ≤ h' → st h ≤ st' h') (h2 : ∀ h h', h ≤ h' → hot h = true → hot h' = true) :
    ∀ (k n : Nat) (h h' : Int), h ≤ h' → ticks st' hot k n h' ≤ ticks st hot k n h
  | 0, _, _, _, _ => Int.le_refl _
  | k + 1, n, h, h', hh => by
    rw [ticks, ticks]
    have r := ticks_range (st := st) (hot := hot) k (n + 1) (st h)
    by_cases e : hot (st' h') = true
    · rw [if_pos e]
      split <;> omega
    · rw [if_neg e, if_neg (fun q => e (h2 _ _ (h1 _ _ hh) q))]
      exact ticks_mono h1 h2 k (n + 1) _ _ (h1 _ _ hh)
theorem law8 (avs : List AV) (H : ArgAll E0 9 [23, 32, 32] avs) : FnOK Try.prog TE 8 avs (.bit true) := by
  obtain ⟨l, m, n, hl, hm, hn, rfl⟩ := argAll3 H
  obtain ⟨g, lo, w, t, c, rfl, _⟩ := open23 hl
  obtain ⟨h, p, a, mo, rfl, _⟩ := open32 hm
  obtain ⟨h', p', a', mo', rfl, _⟩ := open32 hn
  show FnOK Try.prog TE 8 [.agg [.int .i64 g, .int .i64 lo, .int .i64 w, .int .i64 t, .int .i64 c], .agg [.int .i64 h, .int .i64 p, .int .i64 a, .int .i64 mo], .agg [.int .i64 h', .int .i64 p', .int .i64 a', .int .i64 mo']] (.bit true)
  clear H hl hm hn
  refine fn_ofF tabsOK (specOK_cons ok11 (specOK_cons ok13 (specOK_cons ok15 (specOK_cons ok20 (specOK_cons ok22 specOK_nil))))) mixed Try.func8 (by kernel_rfl) ?_
  refine Brn.mk (fun h1 => AVle.bit rfl) (fun h1 => ?_)
  have h1 : chk g lo w t c = 0 := by simpa using h1
  obtain ⟨g1, g2, l1, l2⟩ := chk_zero h1
  have e : tErr (chk g lo w t c) (max 0 (min mo 200)) = 0 := by rw [tErr, if_pos h1, if_neg (by omega)]
  have F1 : okI (chk g lo w t c) (stepI g lo (min h h') (min p p') (min a a')) ≤ okI (chk g lo w t c) (stepI g lo (max h h') (max p p') (max a a')) := by
    rw [h1, okI, okI, if_pos rfl, if_pos rfl]
    exact step_mono ⟨g1, g2⟩ ⟨l1, l2⟩ (by omega) (by omega) (by omega)
  have F2 : okI (tErr (chk g lo w t c) (max 0 (min mo 200))) (ticks (fun h => stepI g lo h (max p p') (max a a')) (fun h => decide (t ≤ sh16 h)) (max 0 (min mo 200)).toNat 0 (max h h')) ≤
      okI (tErr (chk g lo w t c) (max 0 (min mo 200))) (ticks (fun h => stepI g lo h (min p p') (min a a')) (fun h => decide (t ≤ sh16 h)) (max 0 (min mo 200)).toNat 0 (min h h')) := by
    rw [e, okI, okI, if_pos rfl, if_pos rfl]
    refine ticks_mono (fun x y hxy => step_mono ⟨g1, g2⟩ ⟨l1, l2⟩ hxy (by omega) (by omega)) (fun x y hxy q => ?_) _ _ _ _ (by omega)
    have q := of_decide_eq_true q
    refine decide_eq_true ?_
    rw [sh16_eq] at q ⊢
    omega
  have F3 : 0 ≤ okI (tErr (chk g lo w t c) (max 0 (min mo 200))) (ticks (fun h => stepI g lo h (max p p') (max a a')) (fun h => decide (t ≤ sh16 h)) (max 0 (min mo 200)).toNat 0 (max h h')) := by
    rw [e, okI, if_pos rfl]
    exact (ticks_range ..).1
  have F4 : okI (tErr (chk g lo w t c) (max 0 (min mo 200))) (ticks (fun h => stepI g lo h (min p p') (min a a')) (fun h => decide (t ≤ sh16 h)) (max 0 (min mo 200)).toNat 0 (min h h')) ≤ max 0 (min mo 200) := by
    rw [e, okI, if_pos rfl]
    have := (ticks_range (st := fun h => stepI g lo h (min p p') (min a a')) (hot := fun h => decide (t ≤ sh16 h)) (max 0 (min mo 200)).toNat 0 (min h h')).2
    omega
  refine Brn.mk (fun _ => ?_) (fun q => absurd (of_decide_eq_false q) (fun q => q h1))
  refine Brn.mk (fun _ => ?_) (fun q => absurd (of_decide_eq_false q) (fun q => q h1))
  refine Brn.mk (fun _ => ?_) (fun q => absurd (of_decide_eq_false q) (fun q => q e))
  refine Brn.mk (fun _ => ?_) (fun q => absurd (of_decide_eq_false q) (fun q => q e))
  refine Brn.mk (fun _ => ?_) (fun q => absurd (of_decide_eq_false q) (fun q => q F1))
  refine Brn.mk (fun _ => ?_) (fun q => absurd (of_decide_eq_false q) (fun q => q F2))
  refine Brn.mk (fun _ => ?_) (fun q => absurd (of_decide_eq_false q) (fun q => q F3))
  exact AVle.bit (decide_eq_true F4)

theorem lifted8 (os : Os) (started : os.Started) (H : Type) (enc : TypeId × Value → H) :
    ReturnsInHanded {} Try.checked os 8 .any (Rows.imageMonotoneSpec.pre6 enc Try.prog Try.f8 Rows.imageMonotoneRow.domain false) (Rows.imageMonotoneSpec.post enc Try.prog Try.f8 false true false false) := by
  refine returnsInHanded_of_change (C := Try.checked) own0 started (by kernel_rfl) Try.func8
    (ChangeSpec.witness6 (enc := enc) (C := Try.checked) false ⟨#[], #[.agg #[.int .i64 0, .int .i64 0, .int .i64 0, .int .i64 0, .int .i64 0], .agg #[.int .i64 0, .int .i64 0, .int .i64 0, .int .i64 0], .agg #[.int .i64 0, .int .i64 0, .int .i64 0, .int .i64 0]], []⟩ 8 (by kernel_rfl) (by kernel_rfl) (by kernel_rfl) (by kernel_rfl)) ?_
  intro W base args ds gs before hval hW _ _
  exact law_contract tabE0 (d := 9) (tb := 4) [23, 32, 32] (by kernel_rfl) (by kernel_rfl) (by kernel_rfl) rfl laidOut0 (by kernel_rfl) (by kernel_rfl)
    (fun H ds h => match ds, h with | [_, _, _], _ => rfl) law8 hval hW

theorem ImageMonotone_proved : Rows.ImageMonotoneSaid :=
  OpenClaim.holds_of_wide (p := Try.pinned) (s := Rows.imageMonotoneSpec) (c := Rows.imageMonotoneRow) 8 Try.f8 rfl rfl rfl rfl rfl rfl rfl ⟨rfl, rfl, rfl, rfl, rfl⟩ rfl rfl rfl rfl rfl (by kernel_rfl) Try.func8 (by kernel_rfl)
    (of_decide_eq_true (by kernel_rfl)) (by unfold Func.isWrapper; rw [if_neg (of_decide_eq_false (by kernel_rfl))]; exact ⟨rfl, rfl⟩)
    (fun os started H enc _ => lifted8 os started H enc)
end
end Go.Proofs.Ytjmidgfkocmihaa
