/- Chapter 45: Ticks returns the number of ticks below Trip, or the errors as specified. Conditions: none. -/
import Derived.Test.YtjmidgfkocmihaaImgB
import Derived.Test.YtjmidgfkocmihaaRows
import Derived.ProofKit
namespace Go.Proofs.Ytjmidgfkocmihaa
open Go Go.Proofs.Ytjmidgfkocmihaa.AI Go.Proofs Go.Proofs.Ytjmidgfkocmihaa.Img Go.ChangeShapes Go.WideShapes Go.ChangeAt Go.RowKit
noncomputable section
set_option maxRecDepth 100000

theorem ticks_eq (g l t p a : Int) (k n : Nat) (h : Int) : ticks (fun h => stepI g l h p a) (fun h => decide (t ≤ sh16 h)) k n h = ticks (fun h => step45 g l h p a) (fun h => decide (t ≤ floorI h 65536)) k n h := by
  induction k generalizing n h with
  | zero => rfl
  | succ k ih => rw [ticks, ticks, step_eq, floor_sh (step_in ..), ih]
theorem law7 (avs : List AV) (H : ArgAll E0 9 [23, 32] avs) : FnOK Try.prog TE 7 avs (.bit true) := by
  obtain ⟨l, m, hl, hm, rfl⟩ := argAll2 H
  obtain ⟨g, lo, w, t, c, rfl, _⟩ := open23 hl
  obtain ⟨h, p, a, mo, rfl, _⟩ := open32 hm
  show FnOK Try.prog TE 7 [.agg [.int .i64 g, .int .i64 lo, .int .i64 w, .int .i64 t, .int .i64 c], .agg [.int .i64 h, .int .i64 p, .int .i64 a, .int .i64 mo]] (.bit true)
  have bad : ∀ e, tErr (chk g lo w t c) mo = e → ¬ e = 0 → (decide (okI (tErr (chk g lo w t c) mo) (ticks (fun h => stepI g lo h p a) (fun h => decide (t ≤ sh16 h)) mo.toNat 0 h) = 0)) = true := by
    intro e h1 h2
    rw [h1, okI, if_neg h2]; rfl
  refine fn_ofF tabsOK (specOK_cons ok11 (specOK_cons ok12 (specOK_cons ok20 (specOK_cons ok14 (specOK_cons ok21 specOK_nil))))) mixed Try.func7 (by kernel_rfl) ?_
  refine Brn.mk (fun h1 => ?_) (fun h1 => ?_)
  · have h1 : chk g lo w t c = 0 := of_decide_eq_true h1
    have fin : (mo < 0 ∨ 4096 < mo) → tErr (chk g lo w t c) mo = 3 := fun h => by rw [tErr, if_pos h1, if_pos h]
    refine Brn.mk (fun h2 => ?_) (fun h2 => ?_)
    · have e := fin (.inl (of_decide_eq_true h2))
      refine Brn.mk (fun _ => ?_) (fun h4 => absurd h4 (by decide))
      refine Brn.mk (fun h3 => ?_) (fun h3 => ?_)
      · refine AVle.bit ?_
        rw [e]; rfl
      · exact absurd h3 (by rw [bad _ e (by decide)]; decide)
    · refine Brn.mk (fun h3 => ?_) (fun h3 => ?_)
      · have e := fin (.inr (of_decide_eq_true h3))
        refine Brn.mk (fun _ => ?_) (fun h4 => absurd h4 (by decide))
        refine Brn.mk (fun h3 => ?_) (fun h3 => ?_)
        · refine AVle.bit ?_
          rw [e]; rfl
        · exact absurd h3 (by rw [bad _ e (by decide)]; decide)
      · have h2 := of_decide_eq_false h2
        have h3 := of_decide_eq_false h3
        have e : tErr (chk g lo w t c) mo = 0 := by rw [tErr, if_pos h1, if_neg (by omega)]
        refine Brn.mk (fun h4 => ?_) (fun h4 => ?_)
        · exact absurd h4 (by rw [h1]; decide)
        · refine Brn.mk (fun h5 => ?_) (fun h5 => ?_)
          · refine Chk.mk (Int.not_lt.1 h3) ?_
            refine AVle.bit ?_
            rw [e, okI, if_pos rfl, ticks_eq]
            exact decide_eq_true rfl
          · exact absurd h5 (by rw [e]; decide)
  · have h1 : ¬ chk g lo w t c = 0 := of_decide_eq_false h1
    have e : tErr (chk g lo w t c) mo = chk g lo w t c := by rw [tErr, if_neg h1]
    refine Brn.mk (fun h4 => ?_) (fun h4 => ?_)
    · refine Brn.mk (fun h3 => ?_) (fun h3 => ?_)
      · refine AVle.bit ?_
        rw [e]; exact decide_eq_true rfl
      · exact absurd h3 (by rw [bad _ e h1]; decide)
    · exact absurd h4 (by simp [h1])

theorem lifted7 (os : Os) (started : os.Started) (H : Type) (enc : TypeId × Value → H) :
    ReturnsInHanded {} Try.checked os 7 .any (Rows.imageTicksSpec.pre6 enc Try.prog Try.f7 Rows.imageTicksRow.domain false) (Rows.imageTicksSpec.post enc Try.prog Try.f7 false true false false) := by
  refine returnsInHanded_of_change (C := Try.checked) own0 started (by kernel_rfl) Try.func7
    (ChangeSpec.witness6 (enc := enc) (C := Try.checked) false ⟨#[], #[.agg #[.int .i64 0, .int .i64 0, .int .i64 0, .int .i64 0, .int .i64 0], .agg #[.int .i64 0, .int .i64 0, .int .i64 0, .int .i64 0]], []⟩ 8 (by kernel_rfl) (by kernel_rfl) (by kernel_rfl) (by kernel_rfl)) ?_
  intro W base args ds gs before hval hW _ _
  exact law_contract tabE0 (d := 9) (tb := 4) [23, 32] (by kernel_rfl) (by kernel_rfl) (by kernel_rfl) rfl laidOut0 (by kernel_rfl) (by kernel_rfl)
    (fun H ds h => match ds, h with | [_, _], _ => rfl) law7 hval hW

theorem ImageTicks_proved : Rows.ImageTicksSaid :=
  OpenClaim.holds_of_wide (p := Try.pinned) (s := Rows.imageTicksSpec) (c := Rows.imageTicksRow) 7 Try.f7 rfl rfl rfl rfl rfl rfl rfl ⟨rfl, rfl, rfl, rfl, rfl⟩ rfl rfl rfl rfl rfl (by kernel_rfl) Try.func7 (by kernel_rfl)
    (of_decide_eq_true (by kernel_rfl)) (by unfold Func.isWrapper; rw [if_neg (of_decide_eq_false (by kernel_rfl))]; exact ⟨rfl, rfl⟩)
    (fun os started H enc _ => lifted7 os started H enc)
end
end Go.Proofs.Ytjmidgfkocmihaa
