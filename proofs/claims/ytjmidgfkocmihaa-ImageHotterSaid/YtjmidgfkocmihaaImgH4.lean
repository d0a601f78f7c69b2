/- Layer 30: Step by the program. Conditions: none. -/
import Derived.Test.YtjmidgfkocmihaaImgH3
namespace Go.Proofs.Ytjmidgfkocmihaa.Img
open Go Go.Proofs.Ytjmidgfkocmihaa.AI Go.Proofs
noncomputable section
set_option maxRecDepth 100000
theorem warm_eq (a : Int) : warm a = ambR a := by
  unfold warm ambR clip
  congr 2
  omega
def stepErr (c : Int) (n hn pn : Nat) : Int := if c = 0 then (if hn = n ∧ pn = n then 0 else 11) else c
def outN (e : Int) (n : Nat) : Nat := if e = 0 then n else 0
def stepP (n : Nat) (g am : Nat → Int) (lk : Nat → Nat → Int) (hs ps : Nat → Int) (amb : Int) (i : Nat) : Int :=
  clip (wr (wr (hC (hs i) + sh16 (accR (am i) amb (hC (hs i)) (lk i) hs n)) + wr (g i * clip (ps i) 0 1073741824))) (-1099511627776) 1099511627776
theorem accR_in (am amb h : Int) (lk hs : Nat → Int) : ∀ k, InR (accR am amb h lk hs k)
  | 0 => inR_wr _
  | _ + 1 => inR_wr _
theorem stepP_eq (n : Nat) (g am : Nat → Int) (lk : Nat → Nat → Int) (hs ps : Nat → Int) (amb : Int) (i : Nat) : stepP n g am lk hs ps amb i = stepR n g am lk hs ps amb i := by
  unfold stepP stepR
  rw [clip_hC, floor_sh (accR_in ..), wr_add_wr, wr_wr_add, wr_add_wr, ← Int.add_assoc, wr_add_wr, show clip (ps i) 0 1073741824 = pC (ps i) by unfold clip pC; omega]
/-- What lies in 'now' when 'i' are done. -/
def nowF (hs : Nat → Int) (i k : Nat) : Int := if k < i then hC (hs k) else 0
def sHStep : Sp
  | [.agg [.sl s1 n gf, .sl s2 na af, .sl s3 nl lf], .sl s4 hn hf, .sl s5 pn pf, .int .i64 amb] =>
    .pre ((IsI s1 n gf ∧ IsI s2 na af ∧ IsV s3 nl lf) ∧ IsI s4 hn hf ∧ IsI s5 pn pf)
      (.tup [.sl 1 (outN (stepErr (hchk n na nl (vI gf) (vI af) (vN lf) (vII lf)) n hn pn) n) (fun i _ => .int .i64 (stepR n (vI gf) (vI af) (vII lf) (vI hf) (vI pf) amb i)), .err (stepErr (hchk n na nl (vI gf) (vI af) (vN lf) (vII lf)) n hn pn)])
  | _ => .no
theorem hchk_zero {n na nl : Nat} {g am : Nat → Int} {rl : Nat → Nat} {lk : Nat → Nat → Int} (h : hchk n na nl g am rl lk = 0) : 0 < n ∧ n ≤ 8 ∧ na = n ∧ nl = n ∧ (∀ k, k < n → rl k = n) ∧ nodesE n g am lk n 0 = 0 := by
  unfold hchk at h
  split at h
  · omega
  · split at h
    · omega
    · split at h
      · omega
      · split at h
        · rename_i hl
          exact ⟨by omega, by omega, by omega, by omega, fun k hk => lensB_all hl k (by omega) (by omega), h⟩
        · omega
theorem okHStep : EntOK Try.prog TE 27 sHStep := by
  refine ⟨callable_of Try.func27 (by kernel_rfl), fun args => ?_⟩
  unfold sHStep
  split
  · rename_i s1 n gf s2 na af s3 nl lf s4 hn hf s5 pn pf amb
    rintro ⟨⟨h1, h2, h3⟩, h4, h5⟩
    refine FnOK.args ?_ (m := [.agg (cfgL n na nl (vI gf) (vI af) (vN lf) (vII lf)), .sl 1 hn fun i _ => .int .i64 (vI hf i), .sl 1 pn fun i _ => .int .i64 (vI pf i), .int .i64 amb])
      ⟨.aggL ⟨h1.le1 rfl, h2.le1 rfl, h3.le1 rfl, trivial⟩, h4.le rfl, h5.le rfl, .refl, trivial⟩
    generalize vI gf = g
    generalize vI af = am
    generalize vII lf = lk
    generalize vN lf = rl
    generalize vI hf = hs
    generalize vI pf = ps
    show FnOK Try.prog TE _ [.agg [.sl 1 n fun i _ => .int .i64 (g i), .sl 1 na fun i _ => .int .i64 (am i), .sl 1 nl fun i _ => .sl 1 (rl i) fun j _ => .int .i64 (lk i j)], .sl 1 hn fun i _ => .int .i64 (hs i), .sl 1 pn fun i _ => .int .i64 (ps i), .int .i64 amb] _
    refine fn_ofF tabsOK (specOK_cons okHChk (specOK_cons okClip (specOK_cons okWarm specOK_nil))) mixed Try.func27 (by kernel_rfl) ?_
    refine Chk.mk ⟨isI_mk, isI_mk, isV_mk⟩ ?_
    refine Brn.mk (fun q => ?_) (fun q => ?_)
    · have q : ¬ hchk n na nl g am rl lk = 0 := ndT q
      have e : stepErr (hchk n na nl g am rl lk) n hn pn = hchk n na nl g am rl lk := by rw [stepErr, if_neg q]
      exact AVle.tup2 (.nilS (by rw [e, outN, if_neg q])) (.err e.symm)
    have q : hchk n na nl g am rl lk = 0 := ndF q
    obtain ⟨z1, z2, e1, e2, hrl, z3⟩ := hchk_zero q
    subst e1 e2
    have bad : ¬ (hn = nl ∧ pn = nl) → AVle TE (.tup [.nilS, .err 11]) (.tup [.sl 1 (outN (stepErr (hchk nl nl nl g am rl lk) nl hn pn) nl) (fun i _ => .int .i64 (stepR nl g am lk hs ps amb i)), .err (stepErr (hchk nl nl nl g am rl lk) nl hn pn)]) := fun h => by
      have e : stepErr (hchk nl nl nl g am rl lk) nl hn pn = 11 := by rw [stepErr, if_pos q, if_neg h]
      exact AVle.tup2 (.nilS (by rw [e, outN, if_neg (by decide)])) (.err e.symm)
    refine Brn.mk (fun q3 => Chk.mk (by decide) (bad ?_)) (fun q3 => ?_)
    · have q3 : ¬ (hn : Int) = nl := ndT q3
      omega
    refine Brn.mk (fun q4 => Chk.mk (by decide) (bad ?_)) (fun q4 => ?_)
    · have q4 : ¬ (pn : Int) = nl := ndT q4
      omega
    have q3 : (hn : Int) = nl := ndF q3
    have q4 : (pn : Int) = nl := ndF q4
    have e3 : hn = nl := by omega
    have e4 : pn = nl := by omega
    subst e3 e4
    have e : stepErr (hchk pn pn pn g am rl lk) pn pn pn = 0 := by rw [stepErr, if_pos q, if_pos ⟨rfl, rfl⟩]
    rw [e, outN, if_pos rfl]
    clear bad e h1 h2 h3 h4 h5 q q3 q4
    generalize pn = n at z1 z2 z3 hrl
    have hm : (0 : Int) ≤ n ∧ (n : Int) ≤ n ∧ ((8 : Nat) : Int) * n ≤ 281474976710656 ∧ (n : Int) ≤ 9223372036854775807 := ⟨by omega, by omega, by omega, by omega⟩
    refine Chk.mk hm ?_
    refine LoopOK.mk ⟨{ i : Nat // i ≤ n }, fun i => mkSt [(1, .sl 1 n fun i _ => .int .i64 (hs i)), (2, .sl 1 n fun i _ => .int .i64 (ps i)), (3, .int .i64 amb), (4, .loc 4 0), (11, .own 200 n), (43, .sl 1 n fun i _ => .int .i64 (hs i)), (44, .int .i64 n), (45, .int .i64 i.1)]
      [(4, ⟨47, 3, 1, fun _ j => nth (cfgL n n n g am rl lk) j, 0, true⟩), (200, ⟨3, 1, n, fun k _ => .int .i64 (nowF hs i.1 k), 0, false⟩)], fun i => n - i.1, ⟨⟨0, by omega⟩, ?_⟩, ?_⟩
    · refine wk_of [(4, some 4), (200, some 42)] rfl ⟨⟨rfl, rfl⟩, ⟨rfl, rfl⟩, ⟨rfl, rfl⟩, rfl, rfl, ⟨rfl, rfl⟩, ⟨rfl, rfl⟩, ⟨rfl, rfl⟩, trivial⟩ ⟨RowLe.fin rfl rfl rfl rfl rfl ?_, ⟨rfl, rfl, rfl, rfl, rfl, ?_⟩, trivial⟩
      · (repeat' first | exact trivial | exact ⟨by kernel_rfl, by kernel_rfl⟩ | exact Or.inr (by kernel_rfl) | (show _ = _; kernel_rfl) | refine ⟨?_, ?_⟩)
      · intro k j _ hj
        have hj : j < 1 := hj
        have : j = 0 := by omega
        subst this
        exact Or.inr rfl
    rintro ⟨i, hi⟩
    refine Brn.mk (fun h => ?_) (fun h => ?_)
    · have h : (i : Int) < n := of_decide_eq_true h
      have hb : (0 : Int) ≤ (i : Int) ∧ (i : Int) < (n : Int) := ⟨by omega, h⟩
      refine Chk.mk hb (Chk.mk hb ?_)
      refine ⟨⟨i + 1, by omega⟩, by show n - (i + 1) < n - i; omega, ?_⟩
      refine wk_of [(4, some 4), (200, some 200)] rfl ⟨⟨rfl, rfl⟩, ⟨rfl, rfl⟩, ⟨rfl, rfl⟩, rfl, rfl, ⟨rfl, rfl⟩, ⟨rfl, rfl⟩, ⟨wrS (i := i) (by omega), rfl⟩, trivial⟩ ⟨RowLe.fin rfl rfl rfl rfl rfl ?_, RowLe.upd (i := i) (fun k => .int .i64 (nowF hs (i + 1) k)) rfl rfl rfl (fun k _ hne => ?_) ?_, trivial⟩
      · (repeat' first | exact trivial | exact ⟨by kernel_rfl, by kernel_rfl⟩ | exact Or.inr (by kernel_rfl) | (show _ = _; kernel_rfl) | refine ⟨?_, ?_⟩)
      · show AV.int .i64 (nowF hs i k) = AV.int .i64 (nowF hs (i + 1) k)
        unfold nowF
        congr 1
        by_cases hk : k < i
        · rw [if_pos hk, if_pos (by omega)]
        · rw [if_neg hk, if_neg (by omega)]
      · show AV.int .i64 (clip (hs i) (-1099511627776) 1099511627776) = AV.int .i64 (nowF hs (i + 1) i)
        rw [clip_hC, nowF, if_pos (by omega)]
    have h : ¬ (i : Int) < n := of_decide_eq_false h
    have hin : i = n := by omega
    subst hin
    refine LoopOK.mk ⟨{ x : Nat // x ≤ i }, fun x => mkSt [(2, .sl 1 i fun i _ => .int .i64 (ps i)), (3, .int .i64 amb), (4, .loc 4 0), (11, .own 200 i), (14, .own 100 x.1), (56, .own 200 i), (57, .int .i64 i), (58, .int .i64 x.1)]
      [(4, ⟨47, 3, 1, fun _ j => nth (cfgL i i i g am rl lk) j, 0, true⟩), (200, ⟨3, 1, i, fun k _ => .int .i64 (nowF hs i k), 0, false⟩), (100, ⟨3, 1, x.1, fun k _ => .int .i64 (stepP i g am lk hs ps amb k), 1, false⟩)], fun x => i - x.1, ⟨⟨0, by omega⟩, ?_⟩, ?_⟩
    · refine wk_of [(4, some 4), (200, some 200), (100, none)] rfl ⟨⟨rfl, rfl⟩, ⟨rfl, rfl⟩, rfl, rfl, ⟨rfl, rfl⟩, rfl, ⟨rfl, rfl⟩, ⟨rfl, rfl⟩, trivial⟩ ⟨RowLe.fin rfl rfl rfl rfl rfl ?_, ⟨rfl, rfl, rfl, rfl, rfl, fun _ _ _ _ => Or.inr rfl⟩, ⟨rfl, rfl, rfl⟩, trivial⟩
      (repeat' first | exact trivial | exact ⟨by kernel_rfl, by kernel_rfl⟩ | exact Or.inr (by kernel_rfl) | (show _ = _; kernel_rfl) | refine ⟨?_, ?_⟩)
    rintro ⟨x, hx⟩
    refine Brn.mk (fun h => ?_) (fun h => ?_)
    · have h : (x : Int) < i := of_decide_eq_true h
      have hxi : x < i := by omega
      have hrx := hrl x hxi
      have hb : (0 : Int) ≤ (x : Int) ∧ (x : Int) < (i : Int) := ⟨by omega, h⟩
      refine Chk.mk hb (Chk.mk hb ?_)
      have hnow : ∀ k, k < i → nowF hs i k = hC (hs k) := fun k hk => by rw [nowF, if_pos hk]
      refine LoopOK.mk ⟨{ j : Nat // j ≤ i }, fun j => mkSt [(2, .sl 1 i fun i _ => .int .i64 (ps i)), (3, .int .i64 amb), (4, .loc 4 0), (11, .own 200 i), (14, .own 100 x), (15, .int .i64 x), (16, .int .i64 (hC (hs x))), (17, .int .i64 (accR (am x) amb (hC (hs x)) (lk x) hs j.1)), (56, .own 200 i), (57, .int .i64 i), (58, .int .i64 x),
          (73, .own 200 i), (74, .int .i64 i), (75, .int .i64 j.1)]
        [(4, ⟨47, 3, 1, fun _ j => nth (cfgL i i i g am rl lk) j, 0, true⟩), (200, ⟨3, 1, i, fun k _ => .int .i64 (nowF hs i k), 0, false⟩), (100, ⟨3, 1, x, fun k _ => .int .i64 (stepP i g am lk hs ps amb k), 1, false⟩)], fun j => i - j.1, ⟨⟨0, by omega⟩, ?_⟩, ?_⟩
      · refine wk_of [(4, some 4), (200, some 200), (100, some 100)] rfl ⟨⟨rfl, rfl⟩, ⟨rfl, rfl⟩, rfl, rfl, rfl, ⟨rfl, rfl⟩, ⟨?_, rfl⟩, ⟨?_, rfl⟩, rfl, ⟨rfl, rfl⟩, ⟨rfl, rfl⟩, rfl, ⟨rfl, rfl⟩, ⟨rfl, rfl⟩, trivial⟩ ⟨RowLe.fin rfl rfl rfl rfl rfl ?_, ⟨rfl, rfl, rfl, rfl, rfl, fun _ _ _ _ => Or.inr rfl⟩, ⟨rfl, rfl, rfl, rfl, rfl, fun _ _ _ _ => Or.inr rfl⟩, trivial⟩
        · show AV.int .i64 (nowF hs i x) = AV.int .i64 (hC (hs x))
          rw [hnow x hxi]
        · show AV.int .i64 (wr (am x * wr (warm amb - nowF hs i x))) = AV.int .i64 (wr (am x * wr (ambR amb - hC (hs x))))
          rw [hnow x hxi, warm_eq]
        · (repeat' first | exact trivial | exact ⟨by kernel_rfl, by kernel_rfl⟩ | exact Or.inr (by kernel_rfl) | (show _ = _; kernel_rfl) | refine ⟨?_, ?_⟩)
      rintro ⟨j, hj⟩
      refine Brn.mk (fun h => ?_) (fun h => ?_)
      · have h : (j : Int) < i := of_decide_eq_true h
        have hji : j < i := by omega
        have hbj : (0 : Int) ≤ (j : Int) ∧ (j : Int) < (i : Int) := ⟨by omega, h⟩
        have hbj' : (0 : Int) ≤ (j : Int) ∧ (j : Int) < (rl x : Int) := ⟨by omega, by omega⟩
        refine Chk.mk hbj (Chk.mk hb (Chk.mk hbj' ?_))
        refine ⟨⟨j + 1, by omega⟩, by show i - (j + 1) < i - j; omega, ?_⟩
        refine wk_of [(4, some 4), (200, some 200), (100, some 100)] rfl ⟨⟨rfl, rfl⟩, ⟨rfl, rfl⟩, rfl, rfl, rfl, ⟨rfl, rfl⟩, ⟨rfl, rfl⟩, ⟨?_, rfl⟩, rfl, ⟨rfl, rfl⟩, ⟨rfl, rfl⟩, rfl, ⟨rfl, rfl⟩, ⟨wrS (i := j) (by omega), rfl⟩, trivial⟩ ⟨RowLe.fin rfl rfl rfl rfl rfl ?_, ⟨rfl, rfl, rfl, rfl, rfl, fun _ _ _ _ => Or.inr rfl⟩, ⟨rfl, rfl, rfl, rfl, rfl, fun _ _ _ _ => Or.inr rfl⟩, trivial⟩
        · show AV.int .i64 (wr (accR (am x) amb (hC (hs x)) (lk x) hs j + wr (lk x j * wr (nowF hs i j - hC (hs x))))) = AV.int .i64 (accR (am x) amb (hC (hs x)) (lk x) hs (j + 1))
          rw [hnow j hji, accR]
        · (repeat' first | exact trivial | exact ⟨by kernel_rfl, by kernel_rfl⟩ | exact Or.inr (by kernel_rfl) | (show _ = _; kernel_rfl) | refine ⟨?_, ?_⟩)
      · have h : ¬ (j : Int) < i := of_decide_eq_false h
        have hjn : j = i := by omega
        subst hjn
        refine Chk.mk p16 (Chk.mk hb (Chk.mk hb ?_))
        have hq : (x + 1) * 8 ≤ 140737488355328 ∧ x + 1 ≤ 9223372036854775807 := ⟨by omega, by omega⟩
        refine Chk.mk hq ?_
        refine ⟨⟨x + 1, by omega⟩, by show j - (x + 1) < j - x; omega, ?_⟩
        refine wk_of [(4, some 4), (200, some 200), (100, some 114)] rfl ⟨⟨rfl, rfl⟩, ⟨rfl, rfl⟩, rfl, rfl, rfl, rfl, ⟨rfl, rfl⟩, ⟨wrS (i := x) (by omega), rfl⟩, trivial⟩ ⟨RowLe.fin rfl rfl rfl rfl rfl ?_, ⟨rfl, rfl, rfl, rfl, rfl, fun _ _ _ _ => Or.inr rfl⟩, RowLe.app (n := x) (fun k => .int .i64 (stepP j g am lk hs ps amb k)) rfl rfl rfl (fun _ _ => rfl) rfl, trivial⟩
        (repeat' first | exact trivial | exact ⟨by kernel_rfl, by kernel_rfl⟩ | exact Or.inr (by kernel_rfl) | (show _ = _; kernel_rfl) | refine ⟨?_, ?_⟩)
    · have h : ¬ (x : Int) < i := of_decide_eq_false h
      refine AVle.tup2 (.sl (show x = i by omega) fun k j hk hj => ?_) (.nilErr rfl)
      show AV.int .i64 (stepP i g am lk hs ps amb k) = AV.int .i64 (stepR i g am lk hs ps amb k)
      rw [stepP_eq]
  · trivial
end
end Go.Proofs.Ytjmidgfkocmihaa.Img
