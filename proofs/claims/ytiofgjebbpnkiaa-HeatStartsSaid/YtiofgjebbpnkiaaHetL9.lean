/- Chapter 30: Start returns the ambient for each node, which a tick without power does not change; or the error of the configuration. Conditions: none. -/
import Derived.Test.YtiofgjebbpnkiaaHet6
import Derived.Test.YtiofgjebbpnkiaaRows
import Derived.ProofKit
namespace Go.Proofs.Ytiofgjebbpnkiaa
open Go Go.Proofs.Ytiofgjebbpnkiaa.AI Go.Proofs Go.Proofs.Ytiofgjebbpnkiaa.Img Go.ChangeShapes Go.WideShapes Go.ChangeAt Go.RowKit
noncomputable section
set_option maxRecDepth 100000

theorem amb_in (a : Int) : -549755813888 ≤ ambR a ∧ ambR a ≤ 549755813888 := by
  unfold ambR
  rw [wr_id (by omega) (by omega)]
  omega
theorem acc_still (am a : Int) (lk hs : Nat → Int) : ∀ k, (∀ j, j < k → hs j = ambR a) → accR am a (hC (ambR a)) lk hs k = 0
  | 0, _ => by
    have := amb_in a
    have e : hC (ambR a) = ambR a := by unfold hC; omega
    rw [accR, e, Int.sub_self, show wr 0 = 0 from rfl, Int.mul_zero]; rfl
  | k + 1, h => by
    rw [accR, acc_still am a lk hs k (fun j hj => h j (by omega)), h k (by omega), Int.sub_self, show wr 0 = 0 from rfl, Int.mul_zero]; rfl
theorem step_still (n : Nat) (g am : Nat → Int) (lk : Nat → Nat → Int) (hs ps : Nat → Int) (a : Int) (i : Nat) (hi : i < n) (h : ∀ j, j < n → hs j = ambR a) (hp : ps i = 0) : stepR n g am lk hs ps a i = ambR a := by
  have := amb_in a
  have e : hC (ambR a) = ambR a := by unfold hC; omega
  unfold stepR
  rw [h i hi, acc_still _ _ _ _ n h, hp, show pC 0 = 0 from rfl, Int.mul_zero, show floorI 0 65536 = 0 from rfl, show wr 0 = 0 from rfl, Int.add_zero, show wr 0 = 0 from rfl, Int.add_zero, wr_id (by omega) (by omega), e]
  exact e
theorem law9 (avs : List AV) (H : ArgAll E0 9 [25, 3] avs) : FnOK Try.prog TE 9 avs (.bit true) := by
  obtain ⟨l, m, hl, hm, rfl⟩ := argAll2 H
  obtain ⟨n, na, nl, gf, af, lf, rfl, h1, h2, h3⟩ := openC hl
  obtain ⟨a, rfl, _⟩ := openI hm
  show FnOK Try.prog TE 9 [.agg [.sl 1 n gf, .sl 1 na af, .sl 1 nl lf], .int .i64 a] (.bit true)
  refine fn_ofF tabsOK (specOK_cons okAwake (specOK_cons okLarge (specOK_cons okStart (specOK_cons okHChkR (specOK_cons okNum (specOK_cons okR30amb (specOK_cons okHStep (specOK_cons okInts specOK_nil)))))))) mixed Try.func9 (by kernel_rfl) ?_
  have c3 : IsI 1 n gf ∧ IsI 1 na af ∧ IsV 1 nl lf := ⟨⟨rfl, h1⟩, ⟨rfl, h2⟩, h3⟩
  refine Brn.mk (fun _ => AVle.bit rfl) (fun _ => ?_)
  refine Chk.mk c3 (Chk.mk c3 ?_)
  refine Brn.mk (fun q => ?_) (fun q => ?_)
  · have q : ¬ hchk n na nl (vI gf) (vI af) (vN lf) (vII lf) = 0 := ndT q
    refine Brn.mk (fun _ => ?_) (fun h => absurd h ?_)
    · exact AVle.bit (decide_eq_true rfl)
    · rw [outN, if_neg q]; decide
  have q : hchk n na nl (vI gf) (vI af) (vN lf) (vII lf) = 0 := ndF q
  obtain ⟨z1, z2, _⟩ := hchk_zero q
  have eo : outN (hchk n na nl (vI gf) (vI af) (vN lf) (vII lf)) n = n := by rw [outN, if_pos q]
  refine Brn.mk (fun h => absurd q (ndT h)) (fun _ => ?_)
  refine Brn.mk (fun h => absurd (show ((outN (hchk n na nl (vI gf) (vI af) (vN lf) (vII lf)) n : Nat) : Int) = n by rw [eo]) (ndT h)) (fun _ => ?_)
  generalize hO : outN (hchk n na nl (vI gf) (vI af) (vN lf) (vII lf)) n = O at eo
  subst eo
  refine LoopOK.mk ⟨{ i : Nat // i ≤ O }, fun i => mkSt [(1, .int .i64 a), (2, .loc 2 0), (5, .sl 1 O fun _ _ => .int .i64 (ambR a)), (8, .int .i64 i.1)]
      [(2, ⟨25, 3, 1, fun _ j => nth [.sl 1 O gf, .sl 1 na af, .sl 1 nl lf] j, 0, true⟩)], fun i => O - i.1, ⟨⟨0, by omega⟩, ?_⟩, ?_⟩
  · refine wk_of [(2, some 2)] rfl ⟨⟨rfl, rfl⟩, rfl, ⟨?_, rfl⟩, ⟨rfl, rfl⟩, trivial⟩ ⟨RowLe.fin rfl rfl rfl rfl rfl ?_, trivial⟩
    · first
        | rfl
        | exact congrArg (fun k => AV.sl 1 k fun _ _ => AV.int .i64 (ambR a)) hO
    · repeat' first | exact trivial | exact ⟨by kernel_rfl, by kernel_rfl⟩ | refine ⟨?_, ?_⟩
  rintro ⟨i, hi⟩
  refine Brn.mk (fun h => ?_) (fun h => ?_)
  · have h : (i : Int) < O := of_decide_eq_true h
    have hb : (0 : Int) ≤ (i : Int) ∧ (i : Int) < (O : Int) := ⟨by omega, h⟩
    refine Chk.mk hb ?_
    refine Brn.mk (fun q => absurd rfl (ndT q)) (fun _ => ?_)
    refine ⟨⟨i + 1, by omega⟩, by show O - (i + 1) < O - i; omega, ?_⟩
    refine wk_of [(2, some 2)] rfl ⟨⟨rfl, rfl⟩, rfl, ⟨rfl, rfl⟩, ⟨wrS (i := i) (by omega), rfl⟩, trivial⟩ ⟨RowLe.fin rfl rfl rfl rfl rfl ?_, trivial⟩
    repeat' first | exact trivial | exact ⟨by kernel_rfl, by kernel_rfl⟩ | refine ⟨?_, ?_⟩
  have hm : (0 : Int) ≤ O ∧ (O : Int) ≤ O ∧ ((8 : Nat) : Int) * O ≤ 281474976710656 ∧ (O : Int) ≤ 9223372036854775807 := ⟨by omega, by omega, by omega, by omega⟩
  refine Chk.mk hm ?_
  refine Chk.mk ⟨c3, isI_mk, ⟨rfl, fun i hi => rfl⟩⟩ ?_
  have e : stepErr (hchk O na nl (vI gf) (vI af) (vN lf) (vII lf)) O O O = 0 := by rw [stepErr, if_pos q, if_pos ⟨rfl, rfl⟩]
  refine Brn.mk (fun _ => ?_) (fun q => absurd e (of_decide_eq_false q))
  have eo : outN (stepErr (hchk O na nl (vI gf) (vI af) (vN lf) (vII lf)) O O O) O = O := by rw [e, outN, if_pos rfl]
  refine Chk.mk ⟨isI_mk, isI_mk, ?_, ?_⟩ ?_
  · show outN (stepErr (hchk O na nl (vI gf) (vI af) (vN lf) (vII lf)) O O O) O ≤ 1048576
    rw [eo]; omega
  · show O ≤ 1048576
    omega
  refine AVle.bit ?_
  show (decide (((outN (stepErr (hchk O na nl (vI gf) (vI af) (vN lf) (vII lf)) O O O) O : Nat) : Int) = O) && sameB (fun i => stepR O (vI gf) (vI af) (vII lf) (fun _ => ambR a) (fun _ => 0) a i) (fun _ => ambR a) (outN (stepErr (hchk O na nl (vI gf) (vI af) (vN lf) (vII lf)) O O O) O) 0) = true
  rw [eo, decide_eq_true rfl, Bool.true_and]
  exact sameB_of O 0 fun j _ hj => step_still O _ _ _ _ _ a j (by omega) (fun _ _ => rfl) rfl

theorem lifted9 (os : Os) (started : os.Started) (H : Type) (enc : TypeId × Value → H) :
    ReturnsInHanded {} Try.checked os 9 .any (Rows.heatStartsSpec.pre6 enc Try.prog Try.f9 Rows.heatStartsRow.domain false) (Rows.heatStartsSpec.post enc Try.prog Try.f9 false true false false) := by
  refine returnsInHanded_of_change (C := Try.checked) own0 started (by kernel_rfl) Try.func9
    (ChangeSpec.witness6 (enc := enc) (C := Try.checked) false ⟨#[], #[.agg #[.slice none 0 0, .slice none 0 0, .slice none 0 0], .int .i64 0], []⟩ 8 (by kernel_rfl) (by kernel_rfl) (by kernel_rfl) (by kernel_rfl)) ?_
  intro W base args ds gs before hval hW _ _
  exact law_contract tabE0 (d := 9) (tb := 4) [25, 3] (by kernel_rfl) (by kernel_rfl) (by kernel_rfl) rfl laidOut0 (by kernel_rfl) (by kernel_rfl)
    (fun H ds h => match ds, h with | [_, _], _ => rfl) law9 hval hW

theorem HeatStarts_proved : Rows.HeatStartsSaid :=
  OpenClaim.holds_of_wide (p := Try.pinned) (s := Rows.heatStartsSpec) (c := Rows.heatStartsRow) 9 Try.f9 rfl rfl rfl rfl rfl rfl rfl ⟨rfl, rfl, rfl, rfl, rfl⟩ rfl rfl rfl rfl rfl (by kernel_rfl) Try.func9 (by kernel_rfl)
    (of_decide_eq_true (by kernel_rfl)) (by unfold Func.isWrapper; rw [if_neg (of_decide_eq_false (by kernel_rfl))]; exact ⟨rfl, rfl⟩)
    (fun os started H enc _ => lifted9 os started H enc)
end
end Go.Proofs.Ytiofgjebbpnkiaa
