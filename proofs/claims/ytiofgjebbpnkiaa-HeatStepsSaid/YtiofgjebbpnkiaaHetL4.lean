/- Chapter 30: Step returns the heats after a tick, or the errors as specified. Conditions: none. -/
import Derived.Test.YtiofgjebbpnkiaaHet6
import Derived.Test.YtiofgjebbpnkiaaRows
import Derived.ProofKit
namespace Go.Proofs.Ytiofgjebbpnkiaa
open Go Go.Proofs.Ytiofgjebbpnkiaa.AI Go.Proofs Go.Proofs.Ytiofgjebbpnkiaa.Img Go.ChangeShapes Go.WideShapes Go.ChangeAt Go.RowKit
noncomputable section
set_option maxRecDepth 100000

theorem law4 (avs : List AV) (H : ArgAll E0 9 [25, 34] avs) : FnOK Try.prog TE 4 avs (.bit true) := by
  obtain ⟨l, m, hl, hm, rfl⟩ := argAll2 H
  obtain ⟨n, na, nl, gf, af, lf, rfl, h1, h2, h3⟩ := openC hl
  obtain ⟨hn, pn, hf, pf, amb, rfl, h4, h5, _⟩ := openCase hm
  show FnOK Try.prog TE 4 [.agg [.sl 1 n gf, .sl 1 na af, .sl 1 nl lf], .agg [.sl 1 hn hf, .sl 1 pn pf, .int .i64 amb]] (.bit true)
  refine fn_ofF tabsOK (specOK_cons okAwake (specOK_cons okLarge (specOK_cons okHStep (specOK_cons okNum (specOK_cons okHChkR (specOK_cons okInts (specOK_cons okR30step specOK_nil))))))) mixed Try.func4 (by kernel_rfl) ?_
  have c3 : IsI 1 n gf ∧ IsI 1 na af ∧ IsV 1 nl lf := ⟨⟨rfl, h1⟩, ⟨rfl, h2⟩, h3⟩
  refine Brn.mk (fun _ => AVle.bit rfl) (fun _ => ?_)
  refine Brn.mk (fun _ => AVle.bit rfl) (fun _ => ?_)
  refine Brn.mk (fun _ => AVle.bit rfl) (fun _ => ?_)
  refine Chk.mk ⟨c3, ⟨rfl, h4⟩, ⟨rfl, h5⟩⟩ (Chk.mk c3 ?_)
  have bad : ∀ (e : Int) (p : AV → Prop), ¬ e = 0 → stepErr (hchk n na nl (vI gf) (vI af) (vN lf) (vII lf)) n hn pn = e → decide (((outN (stepErr (hchk n na nl (vI gf) (vI af) (vN lf) (vII lf)) n hn pn) n : Nat) : Int) = 0) = true := fun e p he h => by
    rw [h, outN, if_neg he]; rfl
  refine Brn.mk (fun q => ?_) (fun q => ?_)
  · have q : hchk n na nl (vI gf) (vI af) (vN lf) (vII lf) = 0 := of_decide_eq_true q
    have e11 : ¬ (hn = n ∧ pn = n) → stepErr (hchk n na nl (vI gf) (vI af) (vN lf) (vII lf)) n hn pn = 11 := fun h => by rw [stepErr, if_pos q, if_neg h]
    refine Brn.mk (fun q1 => ?_) (fun q1 => ?_)
    · have q1 : ¬ (hn : Int) = n := ndT q1
      have e := e11 (by omega)
      refine Brn.mk (fun _ => ?_) (fun h => absurd h (by decide))
      refine Brn.mk (fun _ => ?_) (fun h => absurd h (by rw [bad 11 (fun _ => True) (by decide) e]; decide))
      exact AVle.bit (decide_eq_true e)
    · refine Brn.mk (fun q2 => ?_) (fun q2 => ?_)
      · have q2 : ¬ (pn : Int) = n := ndT q2
        have e := e11 (by omega)
        refine Brn.mk (fun _ => ?_) (fun h => absurd h (by decide))
        refine Brn.mk (fun _ => ?_) (fun h => absurd h (by rw [bad 11 (fun _ => True) (by decide) e]; decide))
        exact AVle.bit (decide_eq_true e)
      · have q1 : (hn : Int) = n := ndF q1
        have q2 : (pn : Int) = n := ndF q2
        have e1 : hn = n := by omega
        have e2 : pn = n := by omega
        have e : stepErr (hchk n na nl (vI gf) (vI af) (vN lf) (vII lf)) n hn pn = 0 := by rw [stepErr, if_pos q, if_pos ⟨e1, e2⟩]
        obtain ⟨z1, z2, z3, z4, z5, _⟩ := hchk_zero q
        refine Brn.mk (fun h => absurd q (ndT h)) (fun _ => ?_)
        refine Brn.mk (fun _ => ?_) (fun h => absurd e (of_decide_eq_false h))
        subst e1 e2 z3 z4
        refine Chk.mk ⟨⟨rfl, rfl, rfl, rfl, by omega⟩, ⟨rfl, h1⟩, ⟨rfl, h2⟩, ⟨rfl, fun i hi => ?_⟩, ⟨rfl, h4⟩, ⟨rfl, h5⟩⟩ ?_
        · obtain ⟨a, b⟩ := h3.f i hi
          rw [z5 i hi] at a b
          exact ⟨a, b⟩
        refine Chk.mk ⟨isI_mk, isI_mk, ?_, ?_⟩ ?_
        · rw [e, outN, if_pos rfl]; omega
        · omega
        refine AVle.bit ?_
        rw [e, outN, if_pos rfl, decide_eq_true rfl]
        exact sameB_self ..
  · have q : ¬ hchk n na nl (vI gf) (vI af) (vN lf) (vII lf) = 0 := of_decide_eq_false q
    have e : stepErr (hchk n na nl (vI gf) (vI af) (vN lf) (vII lf)) n hn pn = hchk n na nl (vI gf) (vI af) (vN lf) (vII lf) := by rw [stepErr, if_neg q]
    refine Brn.mk (fun _ => ?_) (fun h => absurd (ndF h) q)
    refine Brn.mk (fun _ => ?_) (fun h => absurd h (by rw [bad _ (fun _ => True) q e]; decide))
    exact AVle.bit (decide_eq_true e)

theorem lifted4 (os : Os) (started : os.Started) (H : Type) (enc : TypeId × Value → H) :
    ReturnsInHanded {} Try.checked os 4 .any (Rows.heatStepsSpec.pre6 enc Try.prog Try.f4 Rows.heatStepsRow.domain false) (Rows.heatStepsSpec.post enc Try.prog Try.f4 false true false false) := by
  refine returnsInHanded_of_change (C := Try.checked) own0 started (by kernel_rfl) Try.func4
    (ChangeSpec.witness6 (enc := enc) (C := Try.checked) false ⟨#[], #[.agg #[.slice none 0 0, .slice none 0 0, .slice none 0 0], .agg #[.slice none 0 0, .slice none 0 0, .int .i64 0]], []⟩ 8 (by kernel_rfl) (by kernel_rfl) (by kernel_rfl) (by kernel_rfl)) ?_
  intro W base args ds gs before hval hW _ _
  exact law_contract tabE0 (d := 9) (tb := 4) [25, 34] (by kernel_rfl) (by kernel_rfl) (by kernel_rfl) rfl laidOut0 (by kernel_rfl) (by kernel_rfl)
    (fun H ds h => match ds, h with | [_, _], _ => rfl) law4 hval hW

theorem HeatSteps_proved : Rows.HeatStepsSaid :=
  OpenClaim.holds_of_wide (p := Try.pinned) (s := Rows.heatStepsSpec) (c := Rows.heatStepsRow) 4 Try.f4 rfl rfl rfl rfl rfl rfl rfl ⟨rfl, rfl, rfl, rfl, rfl⟩ rfl rfl rfl rfl rfl (by kernel_rfl) Try.func4 (by kernel_rfl)
    (of_decide_eq_true (by kernel_rfl)) (by unfold Func.isWrapper; rw [if_neg (of_decide_eq_false (by kernel_rfl))]; exact ⟨rfl, rfl⟩)
    (fun os started H enc _ => lifted4 os started H enc)
end
end Go.Proofs.Ytiofgjebbpnkiaa
