/- Chapter 48: Step returns the state after a tick, or the errors as specified. Conditions: none. -/
import Derived.Test.YtiodcjbpfhfmbaaFlt14
import Derived.Test.YtiodcjbpfhfmbaaRows
import Derived.ProofKit
namespace Go.Proofs.Ytiodcjbpfhfmbaa
open Go Go.Proofs.Ytiodcjbpfhfmbaa.AI Go.Proofs Go.Proofs.Ytiodcjbpfhfmbaa.Img Go.ChangeShapes Go.WideShapes Go.ChangeAt Go.RowKit
noncomputable section
set_option maxRecDepth 100000

set_option maxHeartbeats 8000000 in
theorem law4 (avs : List AV) (H : ArgAll E0 9 [22, 28, 39] avs) : FnOK Try.prog TE 4 avs (.bit true) := by
  obtain ⟨l1, l2, l3, h1, h2, h3, rfl⟩ := argAll3 H
  obtain ⟨n, f, rfl, hf⟩ := openRul h1
  obtain ⟨na, fa, nh, fh, re, tk, k, fg, rfl, ha, hh, hg⟩ := openSt h2
  obtain ⟨nn, fw, ack, still, rfl, hw⟩ := openIn h3
  show FnOK Try.prog TE 4 [.sl 2 n f, .agg [.sl 1 na fa, .sl 1 nh fh, .int .i64 re, .int .i64 tk, .sl 2 k fg], .agg [.sl 1 nn fw, .bit ack, .bit still]] (.bit true)
  refine FnOK.args (m := [.sl 2 n (rulF (vI f) (vL f)), .agg (stL na nh (vB fa) (vB fh) re tk k (vI fg) (vJ fg)), .agg [.sl 1 nn (bitF (vB fw)), .bit ack, .bit still]]) ?_ ⟨le2_sl hf.le1, (SlOK.mk ha hh hg : SlOK (.sl 1 na fa) (.sl 1 nh fh) (.sl 2 k fg)).le, .aggL ⟨(BAV.le hw : Le1 _ (.sl 1 nn fw) _), .refl, .refl, trivial⟩, trivial⟩
  generalize vI f = r
  generalize vL f = l
  generalize vB fa = x
  generalize vB fh = y
  generalize vI fg = ea
  generalize vJ fg = eb
  generalize vB fw = now
  refine fn_ofF tabsOK (specOK_cons ok10 (specOK_cons ok11 (specOK_cons okNum (specOK_cons ok15 (specOK_cons ok17 (specOK_cons ok18b (specOK_cons ok19 (specOK_cons ok20 specOK_nil)))))))) mixed Try.func4 (by kernel_rfl) ?_
  refine Chk.mk ⟨⟨isB_mk, isB_mk, isE_mk⟩, isB_mk⟩ ?_
  refine Brn.mk (fun _ => AVle.bit rfl) (fun h1 => ?_)
  obtain ⟨n1, n2, n3, n4, n5⟩ := lrg_no (show lrg n na nh k nn = false from h1)
  have hS : StOK (.sl 1 na (bitF x)) (.sl 1 nh (bitF y)) (.sl 2 k (evnF ea eb)) := stOK_mk (by omega) (by omega) (by omega)
  have hn : n ≤ 1000 := by omega
  have hnn : nn ≤ 1000 := by omega
  refine Chk.mk ⟨⟨isR_mk, hn⟩, hS, isB_mk, hnn⟩ (Chk.mk ⟨isR_mk, hn⟩ ?_)
  obtain ⟨S, hE⟩ : ∃ S, S = stpE n r na nh re tk k nn := ⟨_, rfl⟩
  have zS : ∀ {m : Nat}, m ≤ 1000 → zN (stpE n r na nh re tk k nn) m ≤ 1000 := fun h => zN_le fun _ => h
  have lgc : ∀ m, lgC m ≤ 1000 := fun m => by unfold lgC; split <;> omega
  have bad : ∀ e : Int, ¬ e = 0 → e = stpE n r na nh re tk k nn →
      (StOK (.sl 1 (zN (stpE n r na nh re tk k nn) n) (bitF now)) (.sl 1 (zN (stpE n r na nh re tk k nn) n) (bitF (hldF now ack y l))) (.sl 2 (zN (stpE n r na nh re tk k nn) (lgC (lgN k (ccF now x) n))) (evnF (lgD (lgN k (ccF now x) n) (lgA k (ccF now x) ea (fun i => i) n)) (lgD (lgN k (ccF now x) n) (lgA k (ccF now x) eb (fun _ => nTk tk) n)))) ∧
      StOK .nilS .nilS .nilS ∧ SameS (.sl 1 (zN (stpE n r na nh re tk k nn) n) (bitF now)) (.sl 1 (zN (stpE n r na nh re tk k nn) n) (bitF (hldF now ack y l))) (.sl 2 (zN (stpE n r na nh re tk k nn) (lgC (lgN k (ccF now x) n))) (evnF (lgD (lgN k (ccF now x) n) (lgA k (ccF now x) ea (fun i => i) n)) (lgD (lgN k (ccF now x) n) (lgA k (ccF now x) eb (fun _ => nTk tk) n)))) .nilS .nilS .nilS
        (zI (stpE n r na nh re tk k nn) (rea (wst r (fun i => now i || hldF now ack y l i) n) re still)) 0 (zI (stpE n r na nh re tk k nn) (nTk tk)) 0) := fun e h0 he => by
    have hs : ¬ stpE n r na nh re tk k nn = 0 := by rw [← he]; exact h0
    have z : ∀ m, zN (stpE n r na nh re tk k nn) m = 0 := fun m => zN1 hs
    refine ⟨⟨isB_mk, isB_mk, isE_mk, zS hn, zS hn, zS (lgc _)⟩, ⟨trivial, trivial, trivial, Nat.zero_le _, Nat.zero_le _, Nat.zero_le _⟩, zI1 hs, zI1 hs, z _, z _, z _, fun i hi => absurd (show i < zN (stpE n r na nh re tk k nn) n from hi) (by rw [z]; omega), fun i hi => absurd (show i < zN (stpE n r na nh re tk k nn) n from hi) (by rw [z]; omega), fun i hi => absurd (show i < zN (stpE n r na nh re tk k nn) (lgC (lgN k (ccF now x) n)) from hi) (by rw [z]; omega), fun i hi => absurd (show i < zN (stpE n r na nh re tk k nn) (lgC (lgN k (ccF now x) n)) from hi) (by rw [z]; omega)⟩
  refine Brn.mk (fun h2 => ?_) (fun h2 => ?_)
  · have h2 : rchk n r = 0 := of_decide_eq_true h2
    refine Chk.mk ⟨⟨isR_mk, hn⟩, hS⟩ ?_
    have et : tchk n r na nh re tk k = schk n na nh re tk k := if_pos h2
    refine Brn.mk (fun h3 => ?_) (fun h3 => ?_)
    · have h3 : schk n na nh re tk k = 0 := of_decide_eq_true h3
      obtain ⟨e1, e2, _, ⟨t0, t1⟩, k16⟩ := schk_zero h3
      refine Brn.mk (fun h4 => ?_) (fun h4 => ?_)
      · have h4 : ¬ (nn : Int) = n := ndT h4
        have e0 : 11 = stpE n r na nh re tk k nn := by rw [stpE, if_pos (by rw [et]; exact h3), if_neg (fun q => h4 (by rw [q]))]
        refine Brn.mk (fun _ => ?_) (fun q => absurd (ndF q) (by decide))
        refine Chk.mk (bad 11 (by decide) e0) ?_
        refine Brn.mk (fun _ => AVle.bit (decide_eq_true e0.symm)) (fun q => absurd (show true = false from q) (by decide))
      · have h4 : (nn : Int) = n := ndF h4
        have e0 : stpE n r na nh re tk k nn = 0 := by rw [stpE, if_pos (by rw [et]; exact h3), if_pos (by omega)]
        refine Brn.mk (fun q => absurd h3 (ndT q)) (fun _ => ?_)
        obtain ⟨_, n32, _⟩ := rchk_zero h2
        have z : ∀ m, zN (stpE n r na nh re tk k nn) m = m := fun m => zN0 e0
        refine Brn.mk (fun _ => ?_) (fun q => absurd e0 (of_decide_eq_false q))
        refine Chk.mk ⟨⟨isR_mk, hn⟩, hS, ⟨isB_mk, hnn⟩, e1, e2, (show nn = n by omega), t0, t1, n32, k16⟩ ?_
        refine Chk.mk ⟨⟨isB_mk, isB_mk, isE_mk, zS hn, zS hn, zS (lgc _)⟩, ⟨isB_mk, isB_mk, isE_mk, hn, hn, lgc _⟩, zI0 e0, zI0 e0, z _, z _, z _, fun _ _ => rfl, fun _ _ => rfl, fun _ _ => rfl, fun _ _ => rfl⟩ ?_
        exact AVle.bit rfl
    · have h3 : ¬ schk n na nh re tk k = 0 := of_decide_eq_false h3
      have e0 : schk n na nh re tk k = stpE n r na nh re tk k nn := by rw [stpE, if_neg (by rw [et]; exact h3), et]
      refine Brn.mk (fun _ => ?_) (fun q => absurd (ndF q) h3)
      refine Chk.mk (bad _ h3 e0) ?_
      refine Brn.mk (fun _ => AVle.bit (decide_eq_true e0.symm)) (fun q => absurd (show true = false from q) (by decide))
  · have h2 : ¬ rchk n r = 0 := of_decide_eq_false h2
    have e0 : rchk n r = stpE n r na nh re tk k nn := by rw [stpE, tchk, if_neg h2, if_neg h2]
    refine Brn.mk (fun q => absurd (of_decide_eq_true q) h2) (fun _ => ?_)
    refine Brn.mk (fun _ => ?_) (fun q => absurd (ndF q) h2)
    refine Chk.mk (bad _ h2 e0) ?_
    refine Brn.mk (fun _ => AVle.bit (decide_eq_true e0.symm)) (fun q => absurd (show true = false from q) (by decide))

theorem lifted4 (os : Os) (started : os.Started) (H : Type) (enc : TypeId × Value → H) :
    ReturnsInHanded {} Try.checked os 4 .any (Rows.faultsStepsSpec.pre6 enc Try.prog Try.f4 Rows.faultsStepsRow.domain false) (Rows.faultsStepsSpec.post enc Try.prog Try.f4 false true false false) := by
  refine returnsInHanded_of_change (C := Try.checked) own0 started (by kernel_rfl) Try.func4
    (ChangeSpec.witness6 (enc := enc) (C := Try.checked) false ⟨#[], #[.slice none 0 0, .agg #[.slice none 0 0, .slice none 0 0, .int .i64 0, .int .i64 0, .slice none 0 0], .agg #[.slice none 0 0, .bool false, .bool false]], []⟩ 8 (by kernel_rfl) (by kernel_rfl) (by kernel_rfl) (by kernel_rfl)) ?_
  intro W base args ds gs before hval hW _ _
  exact law_contract tabE0 (d := 9) (tb := 4) [22, 28, 39] (by kernel_rfl) (by kernel_rfl) (by kernel_rfl) rfl laidOut0 (by kernel_rfl) (by kernel_rfl)
    (fun H ds h => match ds, h with | [_, _, _], _ => rfl) law4 hval hW

theorem FaultsSteps_proved : Rows.FaultsStepsSaid :=
  OpenClaim.holds_of_wide (p := Try.pinned) (s := Rows.faultsStepsSpec) (c := Rows.faultsStepsRow) 4 Try.f4 rfl rfl rfl rfl rfl rfl rfl ⟨rfl, rfl, rfl, rfl, rfl⟩ rfl rfl rfl rfl rfl (by kernel_rfl) Try.func4 (by kernel_rfl)
    (of_decide_eq_true (by kernel_rfl)) (by unfold Func.isWrapper; rw [if_neg (of_decide_eq_false (by kernel_rfl))]; exact ⟨rfl, rfl⟩)
    (fun os started H enc _ => lifted4 os started H enc)
end
end Go.Proofs.Ytiodcjbpfhfmbaa
