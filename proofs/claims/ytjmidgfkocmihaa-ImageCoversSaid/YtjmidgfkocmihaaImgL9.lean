/- Chapter 45: Covers reports whether the image covers a node, or returns the errors as specified. Conditions: none. -/
import Derived.Test.YtjmidgfkocmihaaImgH6
import Derived.Test.YtjmidgfkocmihaaRows
import Derived.ProofKit
namespace Go.Proofs.Ytjmidgfkocmihaa
open Go Go.Proofs.Ytjmidgfkocmihaa.AI Go.Proofs Go.Proofs.Ytjmidgfkocmihaa.Img Go.ChangeShapes Go.WideShapes Go.ChangeAt Go.RowKit
noncomputable section
set_option maxRecDepth 100000

theorem law9 (avs : List AV) (H : ArgAll E0 9 [23, 47, 3] avs) : FnOK Try.prog TE 9 avs (.bit true) := by
  obtain ⟨l1, l2, l3, h1, h2, h3, rfl⟩ := argAll3 H
  obtain ⟨ga, lo, w, t, c, rfl, _⟩ := open23 h1
  obtain ⟨n, na, nl, gf, af, lf, rfl, hg, ha, hl⟩ := openC2 h2
  obtain ⟨iz, rfl, _⟩ := openI2 h3
  show FnOK Try.prog TE 9 [.agg [.int .i64 ga, .int .i64 lo, .int .i64 w, .int .i64 t, .int .i64 c], .agg [.sl 1 n gf, .sl 1 na af, .sl 1 nl lf], .int .i64 iz] (.bit true)
  refine FnOK.args ?_ (m := [.agg [.int .i64 ga, .int .i64 lo, .int .i64 w, .int .i64 t, .int .i64 c], .agg (cfgL n na nl (vI gf) (vI af) (vN lf) (vII lf)), .int .i64 iz]) ⟨.refl, .aggL ⟨(IsI.mk rfl hg).le1 rfl, (IsI.mk rfl ha).le1 rfl, hl.le1 rfl, trivial⟩, .refl, trivial⟩
  generalize vI gf = g
  generalize vI af = am
  generalize vII lf = lk
  generalize vN lf = rl
  show FnOK Try.prog TE _ [.agg [.int .i64 ga, .int .i64 lo, .int .i64 w, .int .i64 t, .int .i64 c], .agg [.sl 1 n fun i _ => .int .i64 (g i), .sl 1 na fun i _ => .int .i64 (am i), .sl 1 nl fun i _ => .sl 1 (rl i) fun j _ => .int .i64 (lk i j)], .int .i64 iz] (.bit true)
  refine fn_ofF tabsOK (specOK_cons ok11 (specOK_cons ok12 (specOK_cons ok14 (specOK_cons ok23 (specOK_cons ok24 (specOK_cons okHChkR (specOK_cons ok26 specOK_nil))))))) mixed Try.func9 (by kernel_rfl) ?_
  have isI : ∀ (k : Nat) (x : Nat → Int), IsI 1 k (fun i _ => .int .i64 (x i)) := fun _ _ => ⟨rfl, fun _ _ => rfl⟩
  refine Brn.mk (fun _ => AVle.bit rfl) (fun _ => ?_)
  refine Chk.mk ⟨isI _ _, isI _ _, isV_mk⟩ ?_
  have fin : ∀ e : Int, ¬ e = 0 → covE (chk ga lo w t c) (hchk n na nl g am rl lk) n iz = e → (!(decide (covE (chk ga lo w t c) (hchk n na nl g am rl lk) n iz = 0) && covB ga lo n g am lk iz.toNat)) = true := fun e he h => by
    rw [h, decide_eq_false he]; rfl
  refine Brn.mk (fun q1 => ?_) (fun q1 => ?_)
  · have q1 : chk ga lo w t c = 0 := of_decide_eq_true q1
    refine Chk.mk ⟨isI _ _, isI _ _, isV_mk⟩ ?_
    refine Brn.mk (fun q2 => ?_) (fun q2 => ?_)
    · have q2 : hchk n na nl g am rl lk = 0 := of_decide_eq_true q2
      refine Brn.mk (fun q3 => ?_) (fun q3 => ?_)
      · have q3 : iz < 0 := of_decide_eq_true q3
        have e10 : covE (chk ga lo w t c) (hchk n na nl g am rl lk) n iz = 10 := by rw [covE, if_pos q1, if_pos q2, if_pos (Or.inl q3)]
        refine Brn.mk (fun _ => ?_) (fun q => absurd q (by decide))
        refine Brn.mk (fun _ => AVle.bit ?_) (fun q => absurd (fin 10 (by decide) e10) (ne_true_of_eq_false q))
        exact decide_eq_true e10
      have q3 : ¬ iz < 0 := of_decide_eq_false q3
      refine Brn.mk (fun q4 => ?_) (fun q4 => ?_)
      · have q4 : (n : Int) ≤ iz := of_decide_eq_true q4
        have e10 : covE (chk ga lo w t c) (hchk n na nl g am rl lk) n iz = 10 := by rw [covE, if_pos q1, if_pos q2, if_pos (Or.inr q4)]
        refine Brn.mk (fun _ => ?_) (fun q => absurd q (by decide))
        refine Brn.mk (fun _ => AVle.bit ?_) (fun q => absurd (fin 10 (by decide) e10) (ne_true_of_eq_false q))
        exact decide_eq_true e10
      have q4 : ¬ (n : Int) ≤ iz := of_decide_eq_false q4
      obtain ⟨hn0, hn8, ena, enl, hrl, _⟩ := hchk_zero q2
      have e0 : covE (chk ga lo w t c) (hchk n na nl g am rl lk) n iz = 0 := by rw [covE, if_pos q1, if_pos q2, if_neg (by omega)]
      refine Brn.mk (fun q => absurd q2 (i2_ndT q)) (fun _ => ?_)
      refine Brn.mk (fun _ => ?_) (fun q => absurd e0 (of_decide_eq_false q))
      refine Chk.mk ⟨⟨isI _ _, isI _ _, isV_mk⟩, ⟨ena.symm, enl.symm, hn8, hrl⟩, by omega, by omega⟩ (AVle.bit ?_)
      show ((decide (covE (chk ga lo w t c) (hchk n na nl g am rl lk) n iz = 0) && covB ga lo n g am lk iz.toNat) == covB ga lo n g am lk iz.toNat) = true
      rw [e0]
      cases covB ga lo n g am lk iz.toNat <;> rfl
    · have q2 : ¬ hchk n na nl g am rl lk = 0 := of_decide_eq_false q2
      have e1 : covE (chk ga lo w t c) (hchk n na nl g am rl lk) n iz = hchk n na nl g am rl lk := by rw [covE, if_pos q1, if_neg q2]
      refine Brn.mk (fun _ => ?_) (fun q => absurd (i2_ndF q) q2)
      refine Brn.mk (fun _ => AVle.bit ?_) (fun q => absurd (fin _ q2 e1) (ne_true_of_eq_false q))
      exact decide_eq_true e1
  · have q1 : ¬ chk ga lo w t c = 0 := of_decide_eq_false q1
    have e1 : covE (chk ga lo w t c) (hchk n na nl g am rl lk) n iz = chk ga lo w t c := by rw [covE, if_neg q1]
    refine Brn.mk (fun q => absurd (of_decide_eq_true q) q1) (fun _ => ?_)
    refine Brn.mk (fun _ => ?_) (fun q => absurd (i2_ndF q) q1)
    refine Brn.mk (fun _ => AVle.bit ?_) (fun q => absurd (fin _ q1 e1) (ne_true_of_eq_false q))
    exact decide_eq_true e1

theorem lifted9 (os : Os) (started : os.Started) (H : Type) (enc : TypeId × Value → H) :
    ReturnsInHanded {} Try.checked os 9 .any (Rows.imageCoversSpec.pre6 enc Try.prog Try.f9 Rows.imageCoversRow.domain false) (Rows.imageCoversSpec.post enc Try.prog Try.f9 false true false false) := by
  refine returnsInHanded_of_change (C := Try.checked) own0 started (by kernel_rfl) Try.func9
    (ChangeSpec.witness6 (enc := enc) (C := Try.checked) false ⟨#[], #[.agg #[.int .i64 0, .int .i64 0, .int .i64 0, .int .i64 0, .int .i64 0], .agg #[.slice none 0 0, .slice none 0 0, .slice none 0 0], .int .i64 0], []⟩ 8 (by kernel_rfl) (by kernel_rfl) (by kernel_rfl) (by kernel_rfl)) ?_
  intro W base args ds gs before hval hW _ _
  exact law_contract tabE0 (d := 9) (tb := 4) [23, 47, 3] (by kernel_rfl) (by kernel_rfl) (by kernel_rfl) rfl laidOut0 (by kernel_rfl) (by kernel_rfl)
    (fun H ds h => match ds, h with | [_, _, _], _ => rfl) law9 hval hW

theorem ImageCovers_proved : Rows.ImageCoversSaid :=
  OpenClaim.holds_of_wide (p := Try.pinned) (s := Rows.imageCoversSpec) (c := Rows.imageCoversRow) 9 Try.f9 rfl rfl rfl rfl rfl rfl rfl ⟨rfl, rfl, rfl, rfl, rfl⟩ rfl rfl rfl rfl rfl (by kernel_rfl) Try.func9 (by kernel_rfl)
    (of_decide_eq_true (by kernel_rfl)) (by unfold Func.isWrapper; rw [if_neg (of_decide_eq_false (by kernel_rfl))]; exact ⟨rfl, rfl⟩)
    (fun os started H enc _ => lifted9 os started H enc)
end
end Go.Proofs.Ytjmidgfkocmihaa
