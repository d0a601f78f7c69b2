/- Layer 30: Celsius, Loss, Start, and the statements' helpers. Conditions: none. -/
import Derived.Test.YtiofgjebbpnkiaaHet4
namespace Go.Proofs.Ytiofgjebbpnkiaa.Img
open Go Go.Proofs.Ytiofgjebbpnkiaa.AI Go.Proofs
noncomputable section
set_option maxRecDepth 100000
theorem pM : (1048576 : Int) ≠ 0 := by decide
def sHCel : Sp
  | [.sl s n f] => .pre (IsI s n f ∧ n ≤ 1048576) (.sl 1 n fun i _ => .int .i64 (sh16 (vI f i)))
  | _ => .no
theorem okHCel : EntOK Try.prog TE 25 sHCel := by
  refine ⟨callable_of Try.func25 (by kernel_rfl), fun args => ?_⟩
  unfold sHCel
  split
  · rename_i s n f
    rintro ⟨hf, hn⟩
    refine FnOK.args ?_ (m := [.sl 1 n fun i _ => .int .i64 (vI f i)]) ⟨hf.le rfl, trivial⟩
    generalize vI f = g
    refine fn_ofF tabsOK specOK_nil mixed Try.func25 (by kernel_rfl) ?_
    refine LoopOK.mk ⟨{ i : Nat // i ≤ n }, fun i => mkSt [(3, .own 100 i.1), (6, .sl 1 n fun i _ => .int .i64 (g i)), (7, .int .i64 n), (8, .int .i64 i.1)]
      [(100, ⟨3, 1, i.1, fun i _ => .int .i64 (sh16 (g i)), 1, false⟩)], fun i => n - i.1, ⟨⟨0, by omega⟩, ?_⟩, ?_⟩
    · refine wk_of [(100, none)] rfl ⟨⟨rfl, rfl⟩, ⟨rfl, rfl⟩, ⟨rfl, rfl⟩, ⟨rfl, rfl⟩, trivial⟩ ⟨⟨rfl, rfl, rfl⟩, trivial⟩
    · rintro ⟨i, hi⟩
      refine Brn.mk (fun h => ?_) (fun h => ?_)
      · have h : (i : Int) < n := of_decide_eq_true h
        have hb : (0 : Int) ≤ (i : Int) ∧ (i : Int) < (n : Int) := ⟨by omega, h⟩
        have hq : (i + 1) * 8 ≤ 140737488355328 ∧ i + 1 ≤ 9223372036854775807 := ⟨by omega, by omega⟩
        refine Chk.mk hb (Chk.mk p16 (Chk.mk hq ?_))
        refine ⟨⟨i + 1, by omega⟩, by show n - (i + 1) < n - i; omega, ?_⟩
        refine wk_of [(100, some 16)] rfl ⟨rfl, ⟨rfl, rfl⟩, ⟨rfl, rfl⟩, ⟨wrS (i := i) (by omega), rfl⟩, trivial⟩ ⟨RowLe.app (n := i) (fun i => .int .i64 (sh16 (g i))) rfl rfl rfl (fun _ _ => rfl) rfl, trivial⟩
      · have h : ¬ (i : Int) < n := of_decide_eq_false h
        refine AVle.sl (show i = n by omega) fun i j hi hj => rfl
  · trivial
def lossP (c m : Int) : Int := wr (Int.tdiv (wr (wr (clip m 0 1048576 * clip c (-1048576) 1048576) * clip c (-1048576) 1048576)) 1048576)
def sLoss : Sp
  | [.int .i64 c, .int .i64 m] => .ok (.int .i64 (lossP c m))
  | _ => .no
theorem okLoss : EntOK Try.prog TE 24 sLoss := by
  refine ⟨callable_of Try.func24 (by kernel_rfl), fun args => ?_⟩
  unfold sLoss
  split
  · refine fn_ofF tabsOK (specOK_cons okClip specOK_nil) mixed Try.func24 (by kernel_rfl) ?_
    exact Chk.mk pM (AVle.int rfl)
  · trivial
theorem clip_two {n lo hi : Int} (h : lo ≤ hi) : max lo (min n hi) = clip n lo hi := by unfold clip; omega
theorem okLossR : EntOK Try.prog TE 27 sLoss := by
  refine ⟨callable_of Try.func27 (by kernel_rfl), fun args => ?_⟩
  unfold sLoss
  split
  · refine fn_ofF tabsOK (specOK_cons okR30clip specOK_nil) mixed Try.func27 (by kernel_rfl) ?_
    refine Chk.mk pM (AVle.int ?_)
    rw [clip_two (by decide), clip_two (by decide)]; rfl
  · trivial
/-- What lies in 'out' when 'i' are done. -/
def outF (v : Int) (i k : Nat) : Int := if k < i then v else 0
def sStart : Sp
  | [.agg [.sl s1 n gf, .sl s2 na af, .sl s3 nl lf], .int .i64 amb] =>
    .pre (IsI s1 n gf ∧ IsI s2 na af ∧ IsV s3 nl lf)
      (.tup [.sl 1 (outN (hchk n na nl (vI gf) (vI af) (vN lf) (vII lf)) n) (fun _ _ => .int .i64 (ambR amb)), .err (hchk n na nl (vI gf) (vI af) (vN lf) (vII lf))])
  | _ => .no
theorem okStart : EntOK Try.prog TE 22 sStart := by
  refine ⟨callable_of Try.func22 (by kernel_rfl), fun args => ?_⟩
  unfold sStart
  split
  · rename_i s1 n gf s2 na af s3 nl lf amb
    rintro ⟨h1, h2, h3⟩
    refine FnOK.args ?_ (m := [.agg (cfgL n na nl (vI gf) (vI af) (vN lf) (vII lf)), .int .i64 amb])
      ⟨.aggL ⟨h1.le1 rfl, h2.le1 rfl, h3.le1 rfl, trivial⟩, .refl, trivial⟩
    generalize vI gf = g
    generalize vI af = am
    generalize vII lf = lk
    generalize vN lf = rl
    show FnOK Try.prog TE _ [.agg [.sl 1 n fun i _ => .int .i64 (g i), .sl 1 na fun i _ => .int .i64 (am i), .sl 1 nl fun i _ => .sl 1 (rl i) fun j _ => .int .i64 (lk i j)], .int .i64 amb] _
    refine fn_ofF tabsOK (specOK_cons okHChk (specOK_cons okWarm specOK_nil)) mixed Try.func22 (by kernel_rfl) ?_
    refine Chk.mk ⟨isI_mk, isI_mk, isV_mk⟩ ?_
    refine Brn.mk (fun q => ?_) (fun q => ?_)
    · have q : ¬ hchk n na nl g am rl lk = 0 := ndT q
      exact AVle.tup2 (.nilS (by rw [outN, if_neg q])) (.err rfl)
    have q : hchk n na nl g am rl lk = 0 := ndF q
    obtain ⟨z1, z2, _⟩ := hchk_zero q
    rw [q, outN, if_pos rfl]
    have hm : (0 : Int) ≤ n ∧ (n : Int) ≤ n ∧ ((8 : Nat) : Int) * n ≤ 281474976710656 ∧ (n : Int) ≤ 9223372036854775807 := ⟨by omega, by omega, by omega, by omega⟩
    refine Chk.mk hm ?_
    refine LoopOK.mk ⟨{ i : Nat // i ≤ n }, fun i => mkSt [(1, .int .i64 amb), (7, .own 200 n), (18, .own 200 n), (19, .int .i64 n), (20, .int .i64 i.1)]
      [(200, ⟨3, 1, n, fun k _ => .int .i64 (outF (ambR amb) i.1 k), 0, false⟩)], fun i => n - i.1, ⟨⟨0, by omega⟩, ?_⟩, ?_⟩
    · refine wk_of [(200, some 17)] rfl ⟨⟨rfl, rfl⟩, rfl, rfl, ⟨rfl, rfl⟩, ⟨rfl, rfl⟩, trivial⟩ ⟨⟨rfl, rfl, rfl, rfl, rfl, ?_⟩, trivial⟩
      intro k j _ hj
      have hj : j < 1 := hj
      have : j = 0 := by omega
      subst this
      exact Or.inr rfl
    rintro ⟨i, hi⟩
    refine Brn.mk (fun h => ?_) (fun h => ?_)
    · have h : (i : Int) < n := of_decide_eq_true h
      have hb : (0 : Int) ≤ (i : Int) ∧ (i : Int) < (n : Int) := ⟨by omega, h⟩
      refine Chk.mk hb ?_
      refine ⟨⟨i + 1, by omega⟩, by show n - (i + 1) < n - i; omega, ?_⟩
      refine wk_of [(200, some 200)] rfl ⟨⟨rfl, rfl⟩, rfl, rfl, ⟨rfl, rfl⟩, ⟨wrS (i := i) (by omega), rfl⟩, trivial⟩ ⟨RowLe.upd (i := i) (fun k => .int .i64 (outF (ambR amb) (i + 1) k)) rfl rfl rfl (fun k _ hne => ?_) ?_, trivial⟩
      · show AV.int .i64 (outF (ambR amb) i k) = AV.int .i64 (outF (ambR amb) (i + 1) k)
        unfold outF
        congr 1
        by_cases hk : k < i
        · rw [if_pos hk, if_pos (by omega)]
        · rw [if_neg hk, if_neg (by omega)]
      · show AV.int .i64 (warm amb) = AV.int .i64 (outF (ambR amb) (i + 1) i)
        rw [warm_eq, outF, if_pos (by omega)]
    have h : ¬ (i : Int) < n := of_decide_eq_false h
    have hin : i = n := by omega
    subst hin
    refine AVle.tup2 (.sl rfl fun k j hk hj => ?_) (.nilErr rfl)
    show AV.int .i64 (outF (ambR amb) i k) = AV.int .i64 (ambR amb)
    rw [outF, if_pos hk]
  · trivial
end
end Go.Proofs.Ytiofgjebbpnkiaa.Img
