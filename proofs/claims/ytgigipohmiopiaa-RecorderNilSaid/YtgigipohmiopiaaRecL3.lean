/- Chapter 57: all methods of a nil recorder return ErrNone or zero values. Conditions: none. -/
import Derived.Test.YtgigipohmiopiaaRec3
import Derived.Test.YtgigipohmiopiaaRows
import Derived.ProofKit
namespace Go.Proofs.Ytgigipohmiopiaa
open Go Go.Proofs.Ytgigipohmiopiaa.AI Go.Proofs Go.Proofs.Ytgigipohmiopiaa.Img Go.ChangeShapes Go.WideShapes Go.ChangeAt Go.RowKit
noncomputable section
set_option maxRecDepth 100000

theorem openIs {d : Nat} {l : List AV} (h : Arg E0 (d + 2) 22 l) : ∃ n f, l = [.sl 1 n f] := by
  obtain ⟨n, f, rfl, _, _⟩ := h
  exact ⟨n, f, rfl⟩
theorem law3 (avs : List AV) (H : ArgAll E0 9 [22] avs) : FnOK Try.prog TE 3 avs (.bit true) := by
  obtain ⟨l, hl, rfl⟩ := argAll1 H
  obtain ⟨n, f, rfl⟩ := openIs hl
  show FnOK Try.prog TE 3 [.sl 1 n f] (.bit true)
  refine fn_ofF tabsOK (specOK_cons ok4 (specOK_cons ok5n (specOK_cons ok6 (specOK_cons ok7n (specOK_cons ok8n (specOK_cons ok9n (specOK_cons ok10 specOK_nil))))))) mixed Try.func3 (by kernel_rfl) ?_
  refine Brn.mk (fun _ => AVle.bit rfl) (fun _ => ?_)
  repeat first
    | refine Brn.mk (fun q => absurd q (by decide +kernel)) (fun _ => ?_)
    | refine Brn.mk (fun _ => ?_) (fun q => absurd q (by decide +kernel))
  exact AVle.bit rfl

theorem lifted3 (os : Os) (started : os.Started) (H : Type) (enc : TypeId × Value → H) :
    ReturnsInHanded {} Try.checked os 3 .any (Rows.recorderNilSpec.pre6 enc Try.prog Try.f3 Rows.recorderNilRow.domain false) (Rows.recorderNilSpec.post enc Try.prog Try.f3 false true false false) := by
  refine returnsInHanded_of_change (C := Try.checked) own0 started (by kernel_rfl) Try.func3
    (ChangeSpec.witness6 (enc := enc) (C := Try.checked) false ⟨#[], #[.slice none 0 0], []⟩ 8 (by kernel_rfl) (by kernel_rfl) (by kernel_rfl) (by kernel_rfl)) ?_
  intro W base args ds gs before hval hW _ _
  exact law_contract tabE0 (d := 9) (tb := 4) [22] (by kernel_rfl) (by kernel_rfl) (by kernel_rfl) rfl laidOut0 (by kernel_rfl) (by kernel_rfl)
    (fun H ds h => match ds, h with | [_], _ => rfl) law3 hval hW

theorem RecorderNil_proved : Rows.RecorderNilSaid :=
  OpenClaim.holds_of_wide (p := Try.pinned) (s := Rows.recorderNilSpec) (c := Rows.recorderNilRow) 3 Try.f3 rfl rfl rfl rfl rfl rfl rfl ⟨rfl, rfl, rfl, rfl, rfl⟩ rfl rfl rfl rfl rfl (by kernel_rfl) Try.func3 (by kernel_rfl)
    (of_decide_eq_true (by kernel_rfl)) (by unfold Func.isWrapper; rw [if_neg (of_decide_eq_false (by kernel_rfl))]; exact ⟨rfl, rfl⟩)
    (fun os started H enc _ => lifted3 os started H enc)
end
end Go.Proofs.Ytgigipohmiopiaa
