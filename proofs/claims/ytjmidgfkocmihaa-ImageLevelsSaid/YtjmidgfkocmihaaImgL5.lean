/- Chapter 45: Level returns the level, or the error of the configuration. Conditions: none. -/
import Derived.Test.YtjmidgfkocmihaaImgB
import Derived.Test.YtjmidgfkocmihaaRows
import Derived.ProofKit
namespace Go.Proofs.Ytjmidgfkocmihaa
open Go Go.Proofs.Ytjmidgfkocmihaa.AI Go.Proofs Go.Proofs.Ytjmidgfkocmihaa.Img Go.ChangeShapes Go.WideShapes Go.ChangeAt Go.RowKit
noncomputable section
set_option maxRecDepth 100000

theorem law5 (avs : List AV) (H : ArgAll E0 9 [23, 3, 3] avs) : FnOK Try.prog TE 5 avs (.bit true) := by
  obtain ⟨l, m, n, hl, hm, hn, rfl⟩ := argAll3 H
  obtain ⟨g, lo, w, t, c, rfl, _⟩ := open23 hl
  obtain ⟨h, rfl, hh⟩ := openI hm
  obtain ⟨b, rfl, _⟩ := openI hn
  show FnOK Try.prog TE 5 [.agg [.int .i64 g, .int .i64 lo, .int .i64 w, .int .i64 t, .int .i64 c], .int .i64 h, .int .i64 b] (.bit true)
  refine fn_ofF tabsOK (specOK_cons ok11 (specOK_cons ok12 (specOK_cons ok17 (specOK_cons ok14 (specOK_cons ok18 specOK_nil))))) mixed Try.func5 (by kernel_rfl) ?_
  refine Brn.mk (fun h1 => ?_) (fun h1 => ?_)
  · have h1 : ¬ chk g lo w t c = 0 := by simpa using h1
    refine Brn.mk (fun h2 => ?_) (fun h2 => ?_)
    · exact AVle.bit (by simp)
    · exact absurd h2 (by simp [okI, h1])
  · have h1 : chk g lo w t c = 0 := by simpa using h1
    refine Brn.mk (fun h2 => ?_) (fun h2 => ?_)
    · exact AVle.bit (by simp [okI, h1, floor_sh hh])
    · exact absurd h2 (by simp [h1])

theorem lifted5 (os : Os) (started : os.Started) (H : Type) (enc : TypeId × Value → H) :
    ReturnsInHanded {} Try.checked os 5 .any (Rows.imageLevelsSpec.pre6 enc Try.prog Try.f5 Rows.imageLevelsRow.domain false) (Rows.imageLevelsSpec.post enc Try.prog Try.f5 false true false false) := by
  refine returnsInHanded_of_change (C := Try.checked) own0 started (by kernel_rfl) Try.func5
    (ChangeSpec.witness6 (enc := enc) (C := Try.checked) false ⟨#[], #[.agg #[.int .i64 0, .int .i64 0, .int .i64 0, .int .i64 0, .int .i64 0], .int .i64 0, .int .i64 0], []⟩ 8 (by kernel_rfl) (by kernel_rfl) (by kernel_rfl) (by kernel_rfl)) ?_
  intro W base args ds gs before hval hW _ _
  exact law_contract tabE0 (d := 9) (tb := 4) [23, 3, 3] (by kernel_rfl) (by kernel_rfl) (by kernel_rfl) rfl laidOut0 (by kernel_rfl) (by kernel_rfl)
    (fun H ds h => match ds, h with | [_, _, _], _ => rfl) law5 hval hW

theorem ImageLevels_proved : Rows.ImageLevelsSaid :=
  OpenClaim.holds_of_wide (p := Try.pinned) (s := Rows.imageLevelsSpec) (c := Rows.imageLevelsRow) 5 Try.f5 rfl rfl rfl rfl rfl rfl rfl ⟨rfl, rfl, rfl, rfl, rfl⟩ rfl rfl rfl rfl rfl (by kernel_rfl) Try.func5 (by kernel_rfl)
    (of_decide_eq_true (by kernel_rfl)) (by unfold Func.isWrapper; rw [if_neg (of_decide_eq_false (by kernel_rfl))]; exact ⟨rfl, rfl⟩)
    (fun os started H enc _ => lifted5 os started H enc)
end
end Go.Proofs.Ytjmidgfkocmihaa
