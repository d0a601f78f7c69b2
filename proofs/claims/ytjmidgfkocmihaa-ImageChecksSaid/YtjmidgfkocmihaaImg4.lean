/- Chapter 45: the first laws. Conditions: none. -/
import Derived.Test.YtjmidgfkocmihaaImg3
import Derived.Test.YtjmidgfkocmihaaRows
import Derived.ProofKit
namespace Go.Proofs.Ytjmidgfkocmihaa
open Go Go.Proofs.Ytjmidgfkocmihaa.AI Go.Proofs Go.Proofs.Ytjmidgfkocmihaa.Img Go.ChangeShapes Go.WideShapes Go.ChangeAt Go.RowKit
noncomputable section
set_option maxRecDepth 100000

def E0 : Env := env TE tabs []
theorem own0 : ownKnob Try.prog.godebug = none := by kernel_rfl
theorem laidOut0 : laidOutB Try.prog = true := by kernel_rfl
theorem tabE0 : TabOK Try.prog E0 := tabOK_of tabsOK

/-- A configuration's cells. -/
theorem open23 {l : List AV} (h : Arg E0 9 23 l) : ∃ g lo w t c, l = [.int .i64 g, .int .i64 lo, .int .i64 w, .int .i64 t, .int .i64 c] ∧
    (Lit.int .i64 g).wf = true ∧ (Lit.int .i64 lo).wf = true ∧ (Lit.int .i64 w).wf = true ∧ (Lit.int .i64 t).wf = true ∧ (Lit.int .i64 c).wf = true := by
  obtain ⟨_, _, rfl, ⟨g, rfl, hg⟩, _, _, rfl, ⟨lo, rfl, hl⟩, _, _, rfl, ⟨w, rfl, hw⟩, _, _, rfl, ⟨t, rfl, ht⟩, _, _, rfl, ⟨c, rfl, hc⟩, rfl⟩ := h
  exact ⟨g, lo, w, t, c, rfl, hg, hl, hw, ht, hc⟩

theorem law3 (avs : List AV) (h : ArgAll E0 9 [23] avs) : FnOK Try.prog TE 3 avs (.bit true) := by
  obtain ⟨l, hl, rfl⟩ := argAll1 h
  obtain ⟨g, lo, w, t, c, rfl, _⟩ := open23 hl
  show FnOK Try.prog TE 3 [.agg [.int .i64 g, .int .i64 lo, .int .i64 w, .int .i64 t, .int .i64 c]] (.bit true)
  refine fn_ofF tabsOK (specOK_cons ok11 (specOK_cons ok12 (specOK_cons ok13 (specOK_cons ok14 specOK_nil)))) mixed Try.func3 (by kernel_rfl) ?_
  exact AVle.bit (by simp)

theorem lifted3 (os : Os) (started : os.Started) (H : Type) (enc : TypeId × Value → H) :
    ReturnsInHanded {} Try.checked os 3 .any (Rows.imageChecksSpec.pre6 enc Try.prog Try.f3 Rows.imageChecksRow.domain false) (Rows.imageChecksSpec.post enc Try.prog Try.f3 false true false false) := by
  refine returnsInHanded_of_change (C := Try.checked) own0 started (by kernel_rfl) Try.func3
    (ChangeSpec.witness6 (enc := enc) (C := Try.checked) false ⟨#[], #[.agg #[.int .i64 0, .int .i64 0, .int .i64 0, .int .i64 0, .int .i64 0]], []⟩ 8 (by kernel_rfl) (by kernel_rfl) (by kernel_rfl) (by kernel_rfl)) ?_
  intro W base args ds gs before hval hW _ _
  exact law_contract tabE0 (d := 9) (tb := 4) [23] (by kernel_rfl) (by kernel_rfl) (by kernel_rfl) rfl laidOut0 (by kernel_rfl) (by kernel_rfl)
    (fun H ds h => match ds, h with | [_], _ => rfl) law3 hval hW

theorem ImageChecks_proved : Rows.ImageChecksSaid :=
  OpenClaim.holds_of_wide (p := Try.pinned) (s := Rows.imageChecksSpec) (c := Rows.imageChecksRow) 3 Try.f3 rfl rfl rfl rfl rfl rfl rfl ⟨rfl, rfl, rfl, rfl, rfl⟩ rfl rfl rfl rfl rfl (by kernel_rfl) Try.func3 (by kernel_rfl)
    (of_decide_eq_true (by kernel_rfl)) (by unfold Func.isWrapper; rw [if_neg (of_decide_eq_false (by kernel_rfl))]; exact ⟨rfl, rfl⟩)
    (fun os started H enc _ => lifted3 os started H enc)
end
end Go.Proofs.Ytjmidgfkocmihaa
