/- Chapter 48: Cause returns the fault to which the reaction is due, or the errors as specified. Conditions: none. -/
import Derived.Test.YtiodcjbpfhfmbaaFlt8
import Derived.Test.YtiodcjbpfhfmbaaRows
import Derived.ProofKit
namespace Go.Proofs.Ytiodcjbpfhfmbaa
open Go Go.Proofs.Ytiodcjbpfhfmbaa.AI Go.Proofs Go.Proofs.Ytiodcjbpfhfmbaa.Img Go.ChangeShapes Go.WideShapes Go.ChangeAt Go.RowKit
noncomputable section
set_option maxRecDepth 100000

theorem law9 (avs : List AV) (H : ArgAll E0 9 [22, 28] avs) : FnOK Try.prog TE 9 avs (.bit true) := by
  obtain ⟨l, m, hl, hm, rfl⟩ := argAll2 H
  obtain ⟨n, f, rfl, hf⟩ := openRul hl
  obtain ⟨na, fa, nh, fh, re, tk, k, fg, rfl, ha, hh, hg⟩ := openSt hm
  show FnOK Try.prog TE 9 [.sl 2 n f, .agg [.sl 1 na fa, .sl 1 nh fh, .int .i64 re, .int .i64 tk, .sl 2 k fg]] (.bit true)
  refine FnOK.args (m := [.sl 2 n (rulF (vI f) (vL f)), .agg (stL na nh (vB fa) (vB fh) re tk k (vI fg) (vJ fg))]) ?_ ⟨le2_sl hf.le1, (SlOK.mk ha hh hg : SlOK (.sl 1 na fa) (.sl 1 nh fh) (.sl 2 k fg)).le, trivial⟩
  generalize vI f = r
  generalize vL f = l
  generalize vB fa = x
  generalize vB fh = y
  generalize vI fg = ea
  generalize vJ fg = eb
  refine fn_ofF tabsOK (specOK_cons ok10 (specOK_cons ok11 (specOK_cons okNum (specOK_cons ok17 (specOK_cons ok19 (specOK_cons ok25 (specOK_cons ok26 specOK_nil))))))) mixed Try.func9 (by kernel_rfl) ?_
  refine Chk.mk ⟨⟨isB_mk, isB_mk, isE_mk⟩, trivial⟩ ?_
  refine Brn.mk (fun _ => AVle.bit rfl) (fun h1 => ?_)
  obtain ⟨n1, n2, n3, n4, _⟩ := lrg_no (show lrg n na nh k 0 = false from h1)
  have hS : StOK (.sl 1 na (bitF x)) (.sl 1 nh (bitF y)) (.sl 2 k (evnF ea eb)) := stOK_mk (by omega) (by omega) (by omega)
  have hn : n ≤ 1000 := by omega
  refine Chk.mk ⟨⟨isR_mk, hn⟩, hS⟩ (Chk.mk ⟨isR_mk, hn⟩ ?_)
  have no : ∀ e : Int, ¬ e = 0 → e = tchk n r na nh re tk k → zI (tchk n r na nh re tk k) (cau n r (fun i => x i || y i)) = 0 := fun e h0 he => zI1 (by rw [← he]; exact h0)
  refine Brn.mk (fun h2 => ?_) (fun h2 => ?_)
  · have h2 : rchk n r = 0 := of_decide_eq_true h2
    have et : schk n na nh re tk k = tchk n r na nh re tk k := (if_pos h2).symm
    refine Chk.mk ⟨⟨isR_mk, hn⟩, hS⟩ ?_
    refine Brn.mk (fun h3 => ?_) (fun h3 => ?_)
    · have h3 : ¬ schk n na nh re tk k = 0 := ndT h3
      refine Brn.mk (fun _ => AVle.bit (decide_eq_true et.symm)) (fun q => absurd (no _ h3 et) (of_decide_eq_false q))
    · have h3 : schk n na nh re tk k = 0 := ndF h3
      obtain ⟨e1, e2, _⟩ := schk_zero h3
      have e0 : tchk n r na nh re tk k = 0 := by rw [← et]; exact h3
      refine Brn.mk (fun _ => ?_) (fun q => absurd e0 (of_decide_eq_false q))
      refine Chk.mk ⟨⟨isR_mk, hn⟩, hS, (show n ≤ na by omega), (show n ≤ nh by omega)⟩ ?_
      exact AVle.bit (decide_eq_true (zI0 e0))
  · have h2 : ¬ rchk n r = 0 := of_decide_eq_false h2
    have et : rchk n r = tchk n r na nh re tk k := (if_neg h2).symm
    refine Brn.mk (fun _ => ?_) (fun q => absurd (ndF q) h2)
    refine Brn.mk (fun _ => AVle.bit (decide_eq_true et.symm)) (fun q => absurd (no _ h2 et) (of_decide_eq_false q))

theorem lifted9 (os : Os) (started : os.Started) (H : Type) (enc : TypeId × Value → H) :
    ReturnsInHanded {} Try.checked os 9 .any (Rows.faultsCausesSpec.pre6 enc Try.prog Try.f9 Rows.faultsCausesRow.domain false) (Rows.faultsCausesSpec.post enc Try.prog Try.f9 false true false false) := by
  refine returnsInHanded_of_change (C := Try.checked) own0 started (by kernel_rfl) Try.func9
    (ChangeSpec.witness6 (enc := enc) (C := Try.checked) false ⟨#[], #[.slice none 0 0, .agg #[.slice none 0 0, .slice none 0 0, .int .i64 0, .int .i64 0, .slice none 0 0]], []⟩ 8 (by kernel_rfl) (by kernel_rfl) (by kernel_rfl) (by kernel_rfl)) ?_
  intro W base args ds gs before hval hW _ _
  exact law_contract tabE0 (d := 9) (tb := 4) [22, 28] (by kernel_rfl) (by kernel_rfl) (by kernel_rfl) rfl laidOut0 (by kernel_rfl) (by kernel_rfl)
    (fun H ds h => match ds, h with | [_, _], _ => rfl) law9 hval hW

theorem FaultsCauses_proved : Rows.FaultsCausesSaid :=
  OpenClaim.holds_of_wide (p := Try.pinned) (s := Rows.faultsCausesSpec) (c := Rows.faultsCausesRow) 9 Try.f9 rfl rfl rfl rfl rfl rfl rfl ⟨rfl, rfl, rfl, rfl, rfl⟩ rfl rfl rfl rfl rfl (by kernel_rfl) Try.func9 (by kernel_rfl)
    (of_decide_eq_true (by kernel_rfl)) (by unfold Func.isWrapper; rw [if_neg (of_decide_eq_false (by kernel_rfl))]; exact ⟨rfl, rfl⟩)
    (fun os started H enc _ => lifted9 os started H enc)
end
end Go.Proofs.Ytiodcjbpfhfmbaa
