/- Chapter 37: New and Push return what is specified, from any filter and for any element, and Rest what it should. Conditions: none. -/
import Derived.Test.YtpndkmppncpkgaaPrf11
import Derived.Test.YtpndkmppncpkgaaRows
import Derived.ProofKit
namespace Go.Proofs.Ytpndkmppncpkgaa
open Go Go.Proofs.Ytpndkmppncpkgaa.AI Go.Proofs Go.Proofs.Ytpndkmppncpkgaa.Img Go.ChangeShapes Go.WideShapes Go.ChangeAt Go.RowKit
noncomputable section
set_option maxRecDepth 100000

theorem zN_le {c : Int} {n k : Nat} (h : c = 0 → n ≤ k) : zN c n ≤ k := by
  unfold zN; split
  · rename_i hc; exact h hc
  · exact Nat.zero_le _
theorem law8 (avs : List AV) (H : ArgAll E0 9 [50, 3] avs) : FnOK Try.prog TE 8 avs (.bit true) := by
  obtain ⟨l, k, hl, hk, rfl⟩ := argAll2 H
  obtain ⟨a, b, n, m, f, g, p, q, r, t, rfl, hf, hg⟩ := openFil hl
  obtain ⟨u, rfl, _⟩ := openI hk
  show FnOK Try.prog TE 8 [.agg [.int .i64 a, .int .i64 b, .sl 1 n f, .sl 1 m g, .int .i64 p, .int .i64 q, .int .i64 r, .int .i64 t], .int .i64 u] (.bit true)
  refine FnOK.args (m := [.agg [.int .i64 a, .int .i64 b, .sl 1 n fun i _ => .int .i64 (vI f i), .sl 1 m fun i _ => .int .i64 (vI g i), .int .i64 p, .int .i64 q, .int .i64 r, .int .i64 t], .int .i64 u]) ?_ ⟨.aggL ⟨.refl, .refl, ints_le1 rfl hf, ints_le1 rfl hg, .refl, .refl, .refl, .refl, trivial⟩, fun _ _ _ h => h, trivial⟩
  generalize vI f = x
  generalize vI g = y
  refine fn_ofF tabsOK (specOK_cons ok13 (specOK_cons okNum (specOK_cons ok26 (specOK_cons ok27 (specOK_cons ok28 (specOK_cons ok29 (specOK_cons ok30 (specOK_cons ok31 (specOK_cons ok32 specOK_nil))))))))) mixed Try.func8 (by kernel_rfl) ?_
  refine Brn.mk (fun _ => AVle.bit rfl) (fun h1 => ?_)
  refine Brn.mk (fun _ => AVle.bit rfl) (fun h2 => ?_)
  have h1 : ¬ (300 : Int) < n := of_decide_eq_false h1
  have h2 : ¬ (300 : Int) < m := of_decide_eq_false h2
  have hn : n ≤ 1000 := by omega
  have hm : m ≤ 1000 := by omega
  have za : zN (bchk a b) a.toNat ≤ 1000 := zN_le fun h => by have := bchk0.1 h; omega
  have zb : zN (bchk a b) b.toNat ≤ 1000 := zN_le fun h => by have := bchk0.1 h; omega
  refine Chk.mk ⟨isI_mk, isI_mk, hn, hm⟩ ?_
  refine Chk.mk ⟨isI_mk, isI_mk, hn, hm⟩ ?_
  refine Brn.mk (fun _ => ?_) (fun q => absurd rfl (of_decide_eq_false q))
  refine Chk.mk ⟨⟨isI_mk, isI_mk, za, zb⟩, ⟨isI_mk, isI_mk, za, zb⟩, rfl, rfl, rfl, rfl, fun _ => rfl, fun _ => rfl, rfl, rfl, rfl, rfl⟩ ?_
  refine Brn.mk (fun _ => ?_) (fun q => absurd (show true = false from q) (by decide))
  refine Brn.mk (fun _ => ?_) (fun q => absurd rfl (of_decide_eq_false q))
  have zc : ∀ c, zN c n ≤ 1000 := fun c => zN_le fun _ => hn
  have zd : ∀ c, zN c m ≤ 1000 := fun c => zN_le fun _ => hm
  refine Chk.mk ⟨⟨isI_mk, isI_mk, zc _, zd _⟩, ⟨isI_mk, isI_mk, zc _, zd _⟩, rfl, rfl, rfl, rfl, fun _ => rfl, fun _ => rfl, rfl, rfl, rfl, rfl⟩ ?_
  refine Brn.mk (fun _ => ?_) (fun q => absurd (show true = false from q) (by decide))
  refine Chk.mk ⟨isI_mk, isI_mk, hn, hm⟩ (Chk.mk ⟨isI_mk, isI_mk, hn, hm⟩ ?_)
  refine AVle.bit ?_
  exact beq_self_eq_true _

theorem lifted8 (os : Os) (started : os.Started) (H : Type) (enc : TypeId × Value → H) :
    ReturnsInHanded {} Try.checked os 8 .any (Rows.profileFiltersSpec.pre6 enc Try.prog Try.f8 Rows.profileFiltersRow.domain false) (Rows.profileFiltersSpec.post enc Try.prog Try.f8 false true false false) := by
  refine returnsInHanded_of_change (C := Try.checked) own0 started (by kernel_rfl) Try.func8
    (ChangeSpec.witness6 (enc := enc) (C := Try.checked) false ⟨#[], #[.agg #[.int .i64 0, .int .i64 0, .slice none 0 0, .slice none 0 0, .int .i64 0, .int .i64 0, .int .i64 0, .int .i64 0], .int .i64 0], []⟩ 8 (by kernel_rfl) (by kernel_rfl) (by kernel_rfl) (by kernel_rfl)) ?_
  intro W base args ds gs before hval hW _ _
  exact law_contract tabE0 (d := 9) (tb := 4) [50, 3] (by kernel_rfl) (by kernel_rfl) (by kernel_rfl) rfl laidOut0 (by kernel_rfl) (by kernel_rfl)
    (fun H ds h => match ds, h with | [_, _], _ => rfl) law8 hval hW

theorem ProfileFilters_proved : Rows.ProfileFiltersSaid :=
  OpenClaim.holds_of_wide (p := Try.pinned) (s := Rows.profileFiltersSpec) (c := Rows.profileFiltersRow) 8 Try.f8 rfl rfl rfl rfl rfl rfl rfl ⟨rfl, rfl, rfl, rfl, rfl⟩ rfl rfl rfl rfl rfl (by kernel_rfl) Try.func8 (by kernel_rfl)
    (of_decide_eq_true (by kernel_rfl)) (by unfold Func.isWrapper; rw [if_neg (of_decide_eq_false (by kernel_rfl))]; exact ⟨rfl, rfl⟩)
    (fun os started H enc _ => lifted8 os started H enc)
end
end Go.Proofs.Ytpndkmppncpkgaa
