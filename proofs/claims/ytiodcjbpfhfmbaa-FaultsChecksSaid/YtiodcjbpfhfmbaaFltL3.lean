/- Chapter 48: Check accepts exactly the tables of the specified form; Start returns the state at the beginning, or the same error. Conditions: none. -/
import Derived.Test.YtiodcjbpfhfmbaaFlt8
import Derived.Test.YtiodcjbpfhfmbaaRows
import Derived.ProofKit
namespace Go.Proofs.Ytiodcjbpfhfmbaa
open Go Go.Proofs.Ytiodcjbpfhfmbaa.AI Go.Proofs Go.Proofs.Ytiodcjbpfhfmbaa.Img Go.ChangeShapes Go.WideShapes Go.ChangeAt Go.RowKit
noncomputable section
set_option maxRecDepth 100000

theorem law3 (avs : List AV) (H : ArgAll E0 9 [22] avs) : FnOK Try.prog TE 3 avs (.bit true) := by
  obtain ⟨l, hl, rfl⟩ := argAll1 H
  obtain ⟨n, f, rfl, hf⟩ := openRul hl
  show FnOK Try.prog TE 3 [.sl 2 n f] (.bit true)
  refine FnOK.args (m := [.sl 2 n (rulF (vI f) (vL f))]) ?_ ⟨le2_sl hf.le1, trivial⟩
  generalize vI f = r
  generalize vL f = l
  refine fn_ofF tabsOK (specOK_cons ok10 (specOK_cons ok11 (specOK_cons ok12 (specOK_cons okNum (specOK_cons ok14 (specOK_cons ok15 (specOK_cons ok16 specOK_nil))))))) mixed Try.func3 (by kernel_rfl) ?_
  refine Brn.mk (fun _ => AVle.bit rfl) (fun h1 => ?_)
  have h1 : ¬ (100 : Int) < n := of_decide_eq_false h1
  have hn : n ≤ 1000 := by omega
  refine Chk.mk ⟨isR_mk, hn⟩ (Chk.mk ⟨isR_mk, hn⟩ (Chk.mk ⟨isR_mk, hn⟩ ?_))
  refine Brn.mk (fun q => absurd rfl (ndT q)) (fun _ => ?_)
  refine Brn.mk (fun q => absurd rfl (ndT q)) (fun _ => ?_)
  have zl : zN (rchk n r) n ≤ 1000 := zN_le fun _ => hn
  refine Brn.mk (fun h2 => ?_) (fun h2 => ?_)
  · have h2 : ¬ rchk n r = 0 := ndT h2
    have e : zN (rchk n r) n = 0 := zN1 h2
    refine Chk.mk ⟨⟨isB_mk, isB_mk, isE_mk, zl, zl, Nat.zero_le _⟩, ⟨trivial, trivial, trivial, Nat.zero_le _, Nat.zero_le _, Nat.zero_le _⟩, rfl, rfl, e, e, rfl, fun i hi => absurd (show i < zN (rchk n r) n from hi) (by omega), fun i hi => absurd (show i < zN (rchk n r) n from hi) (by omega), fun i hi => absurd (show i < 0 from hi) (by omega), fun i hi => absurd (show i < 0 from hi) (by omega)⟩ ?_
    exact AVle.bit rfl
  · have h2 : rchk n r = 0 := ndF h2
    have e : zN (rchk n r) n = n := zN0 h2
    refine Chk.mk ⟨isR_mk, hn⟩ ?_
    refine Chk.mk ⟨⟨isB_mk, isB_mk, isE_mk, zl, zl, Nat.zero_le _⟩, ⟨isB_mk, isB_mk, isE_mk, hn, hn, Nat.zero_le _⟩, rfl, rfl, e, e, rfl, fun _ _ => rfl, fun _ _ => rfl, fun _ _ => rfl, fun _ _ => rfl⟩ ?_
    exact AVle.bit rfl

theorem lifted3 (os : Os) (started : os.Started) (H : Type) (enc : TypeId × Value → H) :
    ReturnsInHanded {} Try.checked os 3 .any (Rows.faultsChecksSpec.pre6 enc Try.prog Try.f3 Rows.faultsChecksRow.domain false) (Rows.faultsChecksSpec.post enc Try.prog Try.f3 false true false false) := by
  refine returnsInHanded_of_change (C := Try.checked) own0 started (by kernel_rfl) Try.func3
    (ChangeSpec.witness6 (enc := enc) (C := Try.checked) false ⟨#[], #[.slice none 0 0], []⟩ 8 (by kernel_rfl) (by kernel_rfl) (by kernel_rfl) (by kernel_rfl)) ?_
  intro W base args ds gs before hval hW _ _
  exact law_contract tabE0 (d := 9) (tb := 4) [22] (by kernel_rfl) (by kernel_rfl) (by kernel_rfl) rfl laidOut0 (by kernel_rfl) (by kernel_rfl)
    (fun H ds h => match ds, h with | [_], _ => rfl) law3 hval hW

theorem FaultsChecks_proved : Rows.FaultsChecksSaid :=
  OpenClaim.holds_of_wide (p := Try.pinned) (s := Rows.faultsChecksSpec) (c := Rows.faultsChecksRow) 3 Try.f3 rfl rfl rfl rfl rfl rfl rfl ⟨rfl, rfl, rfl, rfl, rfl⟩ rfl rfl rfl rfl rfl (by kernel_rfl) Try.func3 (by kernel_rfl)
    (of_decide_eq_true (by kernel_rfl)) (by unfold Func.isWrapper; rw [if_neg (of_decide_eq_false (by kernel_rfl))]; exact ⟨rfl, rfl⟩)
    (fun os started H enc _ => lifted3 os started H enc)
end
end Go.Proofs.Ytiodcjbpfhfmbaa
