/- Chapter 30: a tick with power is a tick without power, plus Gain times power in each node. Conditions: none. -/
import Derived.Test.YtiofgjebbpnkiaaHetN
import Derived.Test.YtiofgjebbpnkiaaRows
import Derived.ProofKit
namespace Go.Proofs.Ytiofgjebbpnkiaa
open Go Go.Proofs.Ytiofgjebbpnkiaa.AI Go.Proofs Go.Proofs.Ytiofgjebbpnkiaa.Img Go.ChangeShapes Go.WideShapes Go.ChangeAt Go.RowKit
noncomputable section
set_option maxRecDepth 100000

theorem law8 (avs : List AV) (H : ArgAll E0 9 [25, 34] avs) : FnOK Try.prog TE 8 avs (.bit true) := by
  obtain ⟨l, m, hl, hm, rfl⟩ := argAll2 H
  obtain ⟨n, na, nl, gf, af, lf, rfl, h1, h2, h3⟩ := openC hl
  obtain ⟨hn, pn, hf, pf, amb, rfl, h4, h5, _⟩ := openCase hm
  show FnOK Try.prog TE 8 [.agg [.sl 1 n gf, .sl 1 na af, .sl 1 nl lf], .agg [.sl 1 hn hf, .sl 1 pn pf, .int .i64 amb]] (.bit true)
  refine FnOK.args ?_ (m := [.agg (cfgL n na nl (vI gf) (vI af) (vN lf) (vII lf)), .agg [.sl 1 hn fun i _ => .int .i64 (vI hf i), .sl 1 pn fun i _ => .int .i64 (vI pf i), .int .i64 amb]])
    ⟨.aggL ⟨ints_le1 rfl h1, ints_le1 rfl h2, h3.le1 rfl, trivial⟩, .aggL ⟨ints_le1 rfl h4, ints_le1 rfl h5, .refl, trivial⟩, trivial⟩
  generalize vI gf = g
  generalize vI af = am
  generalize vII lf = lk
  generalize vN lf = rl
  generalize vI hf = hs
  generalize vI pf = ps
  show FnOK Try.prog TE 8 [.agg [.sl 1 n fun i _ => .int .i64 (g i), .sl 1 na fun i _ => .int .i64 (am i), .sl 1 nl fun i _ => .sl 1 (rl i) fun j _ => .int .i64 (lk i j)], .agg [.sl 1 hn fun i _ => .int .i64 (hs i), .sl 1 pn fun i _ => .int .i64 (ps i), .int .i64 amb]] (.bit true)
  refine fn_ofF tabsOK (specOK_cons okAwake (specOK_cons okFits (specOK_cons okTick (specOK_cons okBClip specOK_nil)))) mixed Try.func8 (by kernel_rfl) ?_
  refine Chk.mk ⟨isI_mk, isI_mk, isV_mk⟩ ?_
  refine Brn.mk (fun _ => AVle.bit rfl) (fun q => ?_)
  have q : (!fitsB n na nl (hchk n na nl g am rl lk) hn pn) = false := q
  obtain ⟨q0, e1, e2⟩ := fits_of q
  subst e1 e2
  have G := good_of q0
  have e : stepErr (hchk n na nl g am rl lk) n n n = 0 := by rw [stepErr, if_pos q0, if_pos ⟨rfl, rfl⟩]
  have eo : outN (stepErr (hchk n na nl g am rl lk) n n n) n = n := by rw [e, outN, if_pos rfl]
  have n8 := G.n8
  have hm : (0 : Int) ≤ n ∧ (n : Int) ≤ n ∧ ((8 : Nat) : Int) * n ≤ 281474976710656 ∧ (n : Int) ≤ 9223372036854775807 := ⟨by omega, by omega, by omega, by omega⟩
  refine Chk.mk hm ?_
  refine Chk.mk ⟨⟨isI_mk, isI_mk, isV_mk⟩, isI_mk, ⟨rfl, fun i hi => rfl⟩⟩ ?_
  refine Chk.mk ⟨⟨isI_mk, isI_mk, isV_mk⟩, isI_mk, isI_mk⟩ ?_
  refine Brn.mk (fun q => absurd e (ndT q)) (fun _ => ?_)
  refine Brn.mk (fun q => absurd e (ndT q)) (fun _ => ?_)
  refine LoopOK.mk ⟨{ i : Nat // i ≤ n }, fun i => mkSt [(2, .loc 2 0), (3, .loc 3 0), (6, .sl 1 n fun i _ => .int .i64 (stepR n g am lk hs (fun _ => 0) amb i)), (8, .sl 1 n fun i _ => .int .i64 (stepR n g am lk hs ps amb i)), (10, .int .i64 i.1)]
      [(2, ⟨25, 3, 1, fun _ j => nth (cfgL n na nl g am rl lk) j, 0, true⟩), (3, ⟨34, 3, 1, fun _ j => nth [.sl 1 n fun i _ => .int .i64 (hs i), .sl 1 n fun i _ => .int .i64 (ps i), .int .i64 amb] j, 0, true⟩)], fun i => n - i.1, ⟨⟨0, by omega⟩, ?_⟩, ?_⟩
  · refine wk_of [(2, some 2), (3, some 3)] rfl ⟨rfl, rfl, ⟨?_, rfl⟩, ⟨?_, rfl⟩, ⟨rfl, rfl⟩, trivial⟩ ⟨RowLe.fin rfl rfl rfl rfl rfl ?_, RowLe.fin rfl rfl rfl rfl rfl ?_, trivial⟩
    · exact congrArg (fun k => AV.sl 1 k fun i _ => .int .i64 (stepR n g am lk hs (fun _ => 0) amb i)) eo
    · exact congrArg (fun k => AV.sl 1 k fun i _ => .int .i64 (stepR n g am lk hs ps amb i)) eo
    all_goals (repeat' first | exact trivial | exact ⟨by kernel_rfl, by kernel_rfl⟩ | refine ⟨?_, ?_⟩)
  rintro ⟨i, hi⟩
  refine Brn.mk (fun h => ?_) (fun _ => AVle.bit rfl)
  have h : (i : Int) < n := of_decide_eq_true h
  have hb : (0 : Int) ≤ (i : Int) ∧ (i : Int) < (n : Int) := ⟨by omega, h⟩
  refine Chk.mk hb (Chk.mk hb (Chk.mk hb (Chk.mk hb ?_)))
  refine Brn.mk (fun q => absurd (power_eq G hs ps amb (i := i) (by omega)) (ndT q)) (fun _ => ?_)
  refine ⟨⟨i + 1, by omega⟩, by show n - (i + 1) < n - i; omega, ?_⟩
  refine wk_of [(2, some 2), (3, some 3)] rfl ⟨rfl, rfl, ⟨rfl, rfl⟩, ⟨rfl, rfl⟩, ⟨wrS (i := i) (by omega), rfl⟩, trivial⟩ ⟨RowLe.fin rfl rfl rfl rfl rfl ?_, RowLe.fin rfl rfl rfl rfl rfl ?_, trivial⟩
  all_goals (repeat' first | exact trivial | exact ⟨by kernel_rfl, by kernel_rfl⟩ | refine ⟨?_, ?_⟩)

theorem lifted8 (os : Os) (started : os.Started) (H : Type) (enc : TypeId × Value → H) :
    ReturnsInHanded {} Try.checked os 8 .any (Rows.heatPowerSpec.pre6 enc Try.prog Try.f8 Rows.heatPowerRow.domain false) (Rows.heatPowerSpec.post enc Try.prog Try.f8 false true false false) := by
  refine returnsInHanded_of_change (C := Try.checked) own0 started (by kernel_rfl) Try.func8
    (ChangeSpec.witness6 (enc := enc) (C := Try.checked) false ⟨#[], #[.agg #[.slice none 0 0, .slice none 0 0, .slice none 0 0], .agg #[.slice none 0 0, .slice none 0 0, .int .i64 0]], []⟩ 8 (by kernel_rfl) (by kernel_rfl) (by kernel_rfl) (by kernel_rfl)) ?_
  intro W base args ds gs before hval hW _ _
  exact law_contract tabE0 (d := 9) (tb := 4) [25, 34] (by kernel_rfl) (by kernel_rfl) (by kernel_rfl) rfl laidOut0 (by kernel_rfl) (by kernel_rfl)
    (fun H ds h => match ds, h with | [_, _], _ => rfl) law8 hval hW

theorem HeatPower_proved : Rows.HeatPowerSaid :=
  OpenClaim.holds_of_wide (p := Try.pinned) (s := Rows.heatPowerSpec) (c := Rows.heatPowerRow) 8 Try.f8 rfl rfl rfl rfl rfl rfl rfl ⟨rfl, rfl, rfl, rfl, rfl⟩ rfl rfl rfl rfl rfl (by kernel_rfl) Try.func8 (by kernel_rfl)
    (of_decide_eq_true (by kernel_rfl)) (by unfold Func.isWrapper; rw [if_neg (of_decide_eq_false (by kernel_rfl))]; exact ⟨rfl, rfl⟩)
    (fun os started H enc _ => lifted8 os started H enc)
end
end Go.Proofs.Ytiofgjebbpnkiaa
