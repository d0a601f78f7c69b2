/- Layer 30: Check, by the reference and by the program. Conditions: none. -/
import Derived.Test.YtjmidgfkocmihaaImgH2
namespace Go.Proofs.Ytjmidgfkocmihaa.Img
open Go Go.Proofs.Ytjmidgfkocmihaa.AI Go.Proofs
noncomputable section
set_option maxRecDepth 100000

def sHChkR : Sp
  | [.agg [.sl s1 n gf, .sl s2 na af, .sl s3 nl lf]] => .pre (IsI s1 n gf ∧ IsI s2 na af ∧ IsV s3 nl lf) (.int .i64 (hchk n na nl (vI gf) (vI af) (vN lf) (vII lf)))
  | _ => .no
theorem okHChkR : EntOK Try.prog TE 25 sHChkR := by
  refine ⟨callable_of Try.func25 (by kernel_rfl), fun args => ?_⟩
  unfold sHChkR
  split
  · rename_i s1 n gf s2 na af s3 nl lf
    rintro ⟨h1, h2, h3⟩
    refine FnOK.args ?_ (m := [.agg (cfgL n na nl (vI gf) (vI af) (vN lf) (vII lf))]) ⟨.aggL ⟨h1.le1 rfl, h2.le1 rfl, h3.le1 rfl, trivial⟩, trivial⟩
    generalize vI gf = g
    generalize vI af = am
    generalize vII lf = lk
    generalize vN lf = rl
    show FnOK Try.prog TE _ [.agg [.sl 1 n fun i _ => .int .i64 (g i), .sl 1 na fun i _ => .int .i64 (am i), .sl 1 nl fun i _ => .sl 1 (rl i) fun j _ => .int .i64 (lk i j)]] (.int .i64 (hchk n na nl g am rl lk))
    refine fn_ofF tabsOK (specOK_cons okNode specOK_nil) mixed Try.func25 (by kernel_rfl) ?_
    refine Brn.mk (fun q => AVle.int ?_) (fun q1 => ?_)
    · have q : (n : Int) = 0 := of_decide_eq_true q
      rw [hchk, if_pos (by omega)]
    have q1 : ¬ (n : Int) = 0 := of_decide_eq_false q1
    refine Brn.mk (fun q => AVle.int ?_) (fun q2 => ?_)
    · have q : (8 : Int) < n := of_decide_eq_true q
      rw [hchk, if_neg (by omega), if_pos (by omega)]
    have q2 : ¬ (8 : Int) < n := of_decide_eq_false q2
    refine Brn.mk (fun q => AVle.int ?_) (fun q3 => ?_)
    · have q : ¬ (na : Int) = n := by simpa using q
      rw [hchk, if_neg (by omega), if_neg (by omega), if_pos (by omega)]
    have q3 : (na : Int) = n := by simpa using q3
    refine Brn.mk (fun q => AVle.int ?_) (fun q4 => ?_)
    · have q : ¬ (nl : Int) = n := by simpa using q
      rw [hchk, if_neg (by omega), if_neg (by omega), if_pos (by omega)]
    have q4 : (nl : Int) = n := by simpa using q4
    have e1 : na = n := by omega
    have e2 : nl = n := by omega
    subst e1 e2
    have hr : hchk nl nl nl g am rl lk = if lensB rl nl nl 0 = true then nodesE nl g am lk nl 0 else 11 := by
      rw [hchk, if_neg (by omega), if_neg (by omega), if_neg (by omega)]
    rw [hr]
    generalize hL : lensB rl nl nl 0 = L
    generalize nl = n at q1 q2 hL
    refine LoopOK.mk ⟨{ i : Nat // i ≤ n ∧ lensB rl n (n - i) i = L }, fun i => mkSt [(1, .loc 1 0), (3, .int .i64 n), (4, .int .i64 i.1)]
      [(1, ⟨47, 3, 1, fun _ j => nth (cfgL n n n g am rl lk) j, 0, true⟩)], fun i => n - i.1, ⟨⟨0, by omega, hL⟩, ?_⟩, ?_⟩
    · refine wk_of [(1, some 1)] rfl ⟨rfl, ⟨rfl, rfl⟩, ⟨rfl, rfl⟩, trivial⟩ ⟨RowLe.fin rfl rfl rfl rfl rfl ?_, trivial⟩
      (repeat' first | exact trivial | exact ⟨by kernel_rfl, by kernel_rfl⟩ | exact Or.inr (by kernel_rfl) | (show _ = _; kernel_rfl) | refine ⟨?_, ?_⟩)
    rintro ⟨i, hi, hs⟩
    refine Brn.mk (fun h => ?_) (fun h => ?_)
    · have h : (i : Int) < n := of_decide_eq_true h
      have hin : i < n := by omega
      have hb : (0 : Int) ≤ (i : Int) ∧ (i : Int) < (n : Int) := ⟨by omega, h⟩
      refine Chk.mk hb ?_
      refine Brn.mk (fun q => AVle.int ?_) (fun q => ?_)
      · have q : ¬ (rl i : Int) = n := by simpa using q
        rw [lensB_bad hin (by omega)] at hs
        rw [← hs]; rfl
      · have q : (rl i : Int) = n := by simpa using q
        refine ⟨⟨i + 1, by omega, (lensB_next hin (by omega)).symm.trans hs⟩, by show n - (i + 1) < n - i; omega, ?_⟩
        refine wk_of [(1, some 1)] rfl ⟨rfl, ⟨rfl, rfl⟩, ⟨wrS (i := i) (by omega), rfl⟩, trivial⟩ ⟨RowLe.fin rfl rfl rfl rfl rfl ?_, trivial⟩
        (repeat' first | exact trivial | exact ⟨by kernel_rfl, by kernel_rfl⟩ | exact Or.inr (by kernel_rfl) | (show _ = _; kernel_rfl) | refine ⟨?_, ?_⟩)
    have h : ¬ (i : Int) < n := of_decide_eq_false h
    rw [show n - i = 0 by omega, lensB] at hs
    rw [if_pos hs.symm]
    have hrl : ∀ k, k < n → rl k = n := fun k hk => lensB_all (hL.trans hs.symm) k (by omega) (by omega)
    generalize hr : nodesE n g am lk n 0 = r
    refine LoopOK.mk ⟨{ i : Nat // i ≤ n ∧ nodesE n g am lk (n - i) i = r }, fun i => mkSt [(1, .loc 1 0), (3, .int .i64 n), (5, .int .i64 i.1)]
      [(1, ⟨47, 3, 1, fun _ j => nth (cfgL n n n g am rl lk) j, 0, true⟩)], fun i => n - i.1, ⟨⟨0, by omega, hr⟩, ?_⟩, ?_⟩
    · refine wk_of [(1, some 1)] rfl ⟨rfl, ⟨rfl, rfl⟩, ⟨rfl, rfl⟩, trivial⟩ ⟨RowLe.fin rfl rfl rfl rfl rfl ?_, trivial⟩
      (repeat' first | exact trivial | exact ⟨by kernel_rfl, by kernel_rfl⟩ | exact Or.inr (by kernel_rfl) | (show _ = _; kernel_rfl) | refine ⟨?_, ?_⟩)
    rintro ⟨i, hi, hs⟩
    refine Brn.mk (fun h => ?_) (fun h => ?_)
    · have h : (i : Int) < n := of_decide_eq_true h
      have hin : i < n := by omega
      refine Chk.mk ⟨⟨isI_mk, isI_mk, isV_mk⟩, ⟨rfl, rfl, by show n ≤ 8; omega, hrl⟩, by show (0 : Int) ≤ (i : Int); omega, h⟩ ?_
      refine Brn.mk (fun q => AVle.int ?_) (fun q => ?_)
      · have q : ¬ nodeE n g am lk i = 0 := ndT q
        exact (nodesE_bad hin q).symm.trans hs
      · have q : nodeE n g am lk i = 0 := ndF q
        refine ⟨⟨i + 1, by omega, (nodesE_next hin q).symm.trans hs⟩, by show n - (i + 1) < n - i; omega, ?_⟩
        refine wk_of [(1, some 1)] rfl ⟨rfl, ⟨rfl, rfl⟩, ⟨wrS (i := i) (by omega), rfl⟩, trivial⟩ ⟨RowLe.fin rfl rfl rfl rfl rfl ?_, trivial⟩
        (repeat' first | exact trivial | exact ⟨by kernel_rfl, by kernel_rfl⟩ | exact Or.inr (by kernel_rfl) | (show _ = _; kernel_rfl) | refine ⟨?_, ?_⟩)
    · have h : ¬ (i : Int) < n := of_decide_eq_false h
      rw [show n - i = 0 by omega, nodesE] at hs
      exact AVle.int hs
  · trivial

def sHChk : Sp
  | [.agg [.sl s1 n gf, .sl s2 na af, .sl s3 nl lf]] => .pre (IsI s1 n gf ∧ IsI s2 na af ∧ IsV s3 nl lf) (.err (hchk n na nl (vI gf) (vI af) (vN lf) (vII lf)))
  | _ => .no
theorem okHChk : EntOK Try.prog TE 33 sHChk := by
  refine ⟨callable_of Try.func33 (by kernel_rfl), fun args => ?_⟩
  unfold sHChk
  split
  · rename_i s1 n gf s2 na af s3 nl lf
    rintro ⟨h1, h2, h3⟩
    refine FnOK.args ?_ (m := [.agg (cfgL n na nl (vI gf) (vI af) (vN lf) (vII lf))]) ⟨.aggL ⟨h1.le1 rfl, h2.le1 rfl, h3.le1 rfl, trivial⟩, trivial⟩
    generalize vI gf = g
    generalize vI af = am
    generalize vII lf = lk
    generalize vN lf = rl
    show FnOK Try.prog TE _ [.agg [.sl 1 n fun i _ => .int .i64 (g i), .sl 1 na fun i _ => .int .i64 (am i), .sl 1 nl fun i _ => .sl 1 (rl i) fun j _ => .int .i64 (lk i j)]] (.err (hchk n na nl g am rl lk))
    refine fn_ofF tabsOK (specOK_cons okShare specOK_nil) mixed Try.func33 (by kernel_rfl) ?_
    refine Brn.mk (fun q => Chk.mk (by decide) (AVle.err ?_)) (fun q1 => ?_)
    · have q : (n : Int) = 0 := of_decide_eq_true q
      rw [hchk, if_pos (by omega)]
    have q1 : ¬ (n : Int) = 0 := of_decide_eq_false q1
    refine Brn.mk (fun q => Chk.mk (by decide) (AVle.err ?_)) (fun q2 => ?_)
    · have q : (8 : Int) < n := of_decide_eq_true q
      rw [hchk, if_neg (by omega), if_pos (by omega)]
    have q2 : ¬ (8 : Int) < n := of_decide_eq_false q2
    refine Brn.mk (fun q => Chk.mk (by decide) (AVle.err ?_)) (fun q3 => ?_)
    · have q : ¬ (na : Int) = n := by simpa using q
      rw [hchk, if_neg (by omega), if_neg (by omega), if_pos (by omega)]
    have q3 : (na : Int) = n := by simpa using q3
    refine Brn.mk (fun q => Chk.mk (by decide) (AVle.err ?_)) (fun q4 => ?_)
    · have q : ¬ (nl : Int) = n := by simpa using q
      rw [hchk, if_neg (by omega), if_neg (by omega), if_pos (by omega)]
    have q4 : (nl : Int) = n := by simpa using q4
    have e1 : na = n := by omega
    have e2 : nl = n := by omega
    subst e1 e2
    have hr : hchk nl nl nl g am rl lk = if lensB rl nl nl 0 = true then nodesE nl g am lk nl 0 else 11 := by
      rw [hchk, if_neg (by omega), if_neg (by omega), if_neg (by omega)]
    rw [hr]
    generalize hL : lensB rl nl nl 0 = L
    generalize nl = n at q1 q2 hL
    refine LoopOK.mk ⟨{ i : Nat // i ≤ n ∧ lensB rl n (n - i) i = L }, fun i => mkSt [(1, .loc 1 0), (3, .int .i64 n), (37, .sl 1 n fun i _ => .sl 1 (rl i) fun j _ => .int .i64 (lk i j)), (38, .int .i64 n), (39, .int .i64 i.1)]
      [(1, ⟨47, 3, 1, fun _ j => nth (cfgL n n n g am rl lk) j, 0, true⟩)], fun i => n - i.1, ⟨⟨0, by omega, hL⟩, ?_⟩, ?_⟩
    · refine wk_of [(1, some 1)] rfl ⟨rfl, ⟨rfl, rfl⟩, ⟨rfl, rfl⟩, ⟨rfl, rfl⟩, ⟨rfl, rfl⟩, trivial⟩ ⟨RowLe.fin rfl rfl rfl rfl rfl ?_, trivial⟩
      (repeat' first | exact trivial | exact ⟨by kernel_rfl, by kernel_rfl⟩ | exact Or.inr (by kernel_rfl) | (show _ = _; kernel_rfl) | refine ⟨?_, ?_⟩)
    rintro ⟨i, hi, hs⟩
    refine Brn.mk (fun h => ?_) (fun h => ?_)
    · have h : (i : Int) < n := of_decide_eq_true h
      have hin : i < n := by omega
      have hb : (0 : Int) ≤ (i : Int) ∧ (i : Int) < (n : Int) := ⟨by omega, h⟩
      refine Chk.mk hb ?_
      refine Brn.mk (fun q => Chk.mk (by decide) (AVle.err ?_)) (fun q => ?_)
      · have q : ¬ (rl i : Int) = n := by simpa using q
        rw [lensB_bad hin (by omega)] at hs
        rw [← hs]; rfl
      · have q : (rl i : Int) = n := by simpa using q
        refine ⟨⟨i + 1, by omega, (lensB_next hin (by omega)).symm.trans hs⟩, by show n - (i + 1) < n - i; omega, ?_⟩
        refine wk_of [(1, some 1)] rfl ⟨rfl, ⟨rfl, rfl⟩, ⟨rfl, rfl⟩, ⟨rfl, rfl⟩, ⟨wrS (i := i) (by omega), rfl⟩, trivial⟩ ⟨RowLe.fin rfl rfl rfl rfl rfl ?_, trivial⟩
        (repeat' first | exact trivial | exact ⟨by kernel_rfl, by kernel_rfl⟩ | exact Or.inr (by kernel_rfl) | (show _ = _; kernel_rfl) | refine ⟨?_, ?_⟩)
    have h : ¬ (i : Int) < n := of_decide_eq_false h
    rw [show n - i = 0 by omega, lensB] at hs
    rw [if_pos hs.symm]
    have hrl : ∀ k, k < n → rl k = n := fun k hk => lensB_all (hL.trans hs.symm) k (by omega) (by omega)
    generalize hr : nodesE n g am lk n 0 = r
    refine LoopOK.mk ⟨{ i : Nat // i ≤ n ∧ nodesE n g am lk (n - i) i = r }, fun i => mkSt [(1, .loc 1 0), (50, .sl 1 n fun i _ => .sl 1 (rl i) fun j _ => .int .i64 (lk i j)), (51, .int .i64 n), (52, .int .i64 i.1)]
      [(1, ⟨47, 3, 1, fun _ j => nth (cfgL n n n g am rl lk) j, 0, true⟩)], fun i => n - i.1, ⟨⟨0, by omega, hr⟩, ?_⟩, ?_⟩
    · refine wk_of [(1, some 1)] rfl ⟨rfl, ⟨rfl, rfl⟩, ⟨rfl, rfl⟩, ⟨rfl, rfl⟩, trivial⟩ ⟨RowLe.fin rfl rfl rfl rfl rfl ?_, trivial⟩
      (repeat' first | exact trivial | exact ⟨by kernel_rfl, by kernel_rfl⟩ | exact Or.inr (by kernel_rfl) | (show _ = _; kernel_rfl) | refine ⟨?_, ?_⟩)
    rintro ⟨i, hi, hs⟩
    refine Brn.mk (fun h => ?_) (fun h => ?_)
    · have h : (i : Int) < n := of_decide_eq_true h
      have hin : i < n := by omega
      have hb : (0 : Int) ≤ (i : Int) ∧ (i : Int) < (n : Int) := ⟨by omega, h⟩
      have bad : (badS (g i) = true ∨ badS (am i) = true) → AVle TE (.err 3) (.err r) := fun h => by
        have e : nodeE n g am lk i = 3 := by rw [nodeE, if_pos h]
        exact AVle.err ((e.symm.trans (nodesE_bad hin (by rw [e]; decide)).symm).trans hs)
      refine Chk.mk hb (Chk.mk hb ?_)
      refine Brn.mk (fun q => Chk.mk (by decide) (bad (.inl (by simpa using q)))) (fun q1 => ?_)
      refine Chk.mk hb ?_
      refine Brn.mk (fun q => Chk.mk (by decide) (bad (.inr (by simpa using q)))) (fun q2 => ?_)
      refine Chk.mk hb ?_
      have q1 : badS (g i) = false := by simpa using q1
      have q2 : badS (am i) = false := by simpa using q2
      have hne : nodeE n g am lk i = linkE lk i n 0 (am i) := by
        rw [nodeE, if_neg (by rw [q1, q2]; simp)]
      have done : ∀ e : Int, ¬ e = 0 → nodeE n g am lk i = e → AVle TE (.err e) (.err r) := fun e h1 h2 => AVle.err ((h2.symm.trans (nodesE_bad hin (by rw [h2]; exact h1)).symm).trans hs)
      refine LoopOK.mk ⟨{ x : Nat × Int // x.1 ≤ n ∧ linkE lk i (n - x.1) x.1 x.2 = nodeE n g am lk i }, fun x => mkSt [(1, .loc 1 0), (6, .int .i64 i), (8, .int .i64 x.1.2), (50, .sl 1 n fun i _ => .sl 1 (rl i) fun j _ => .int .i64 (lk i j)), (51, .int .i64 n), (52, .int .i64 i),
          (79, .sl 1 (rl i) fun j _ => .int .i64 (lk i j)), (80, .int .i64 (rl i)), (81, .int .i64 x.1.1)]
        [(1, ⟨47, 3, 1, fun _ j => nth (cfgL n n n g am rl lk) j, 0, true⟩)], fun x => n - x.1.1, ⟨⟨(0, am i), by omega, hne.symm⟩, ?_⟩, ?_⟩
      · refine wk_of [(1, some 1)] rfl ⟨rfl, ⟨rfl, rfl⟩, ⟨rfl, rfl⟩, ⟨rfl, rfl⟩, ⟨rfl, rfl⟩, ⟨rfl, rfl⟩, ⟨rfl, rfl⟩, ⟨rfl, rfl⟩, ⟨rfl, rfl⟩, trivial⟩ ⟨RowLe.fin rfl rfl rfl rfl rfl ?_, trivial⟩
        (repeat' first | exact trivial | exact ⟨by kernel_rfl, by kernel_rfl⟩ | exact Or.inr (by kernel_rfl) | (show _ = _; kernel_rfl) | refine ⟨?_, ?_⟩)
      rintro ⟨⟨j, s⟩, hj, hsj⟩
      have hj : j ≤ n := hj
      have hsj : linkE lk i (n - j) j s = nodeE n g am lk i := hsj
      have hri := hrl i hin
      refine Brn.mk (fun h => ?_) (fun h => ?_)
      · have h : (j : Int) < rl i := of_decide_eq_true h
        have hjn : j < n := by omega
        have hrj := hrl j hjn
        have hbj : (0 : Int) ≤ (j : Int) ∧ (j : Int) < (n : Int) := ⟨by omega, by omega⟩
        have hbj' : (0 : Int) ≤ (j : Int) ∧ (j : Int) < (rl i : Int) := ⟨by omega, by omega⟩
        have hbi' : (0 : Int) ≤ (i : Int) ∧ (i : Int) < (rl j : Int) := ⟨by omega, by omega⟩
        refine Chk.mk hbj' ?_
        refine Brn.mk (fun q => Chk.mk (by decide) (done 3 (by decide) ?_)) (fun p1 => ?_)
        · exact hsj.symm.trans (linkE_bad hjn (by simpa using q))
        have p1 : badS (lk i j) = false := by simpa using p1
        refine Chk.mk hbj (Chk.mk hbi' ?_)
        refine Brn.mk (fun q => Chk.mk (by decide) (done 2 (by decide) ?_)) (fun p3 => ?_)
        · exact hsj.symm.trans (linkE_form hjn p1 (.inl (by simpa using q)))
        have p3 : lk i j = lk j i := by simpa using p3
        have fin : ¬ (i = j ∧ ¬ lk i j = 0) → ¬ (¬ lk i j = lk j i ∨ (i = j ∧ ¬ lk i j = 0)) := fun h => by rintro (h2 | h2); exact h2 p3; exact h h2
        refine Brn.mk (fun p4 => ?_) (fun p4 => ?_)
        · have p4 : (i : Int) = j := of_decide_eq_true p4
          refine Brn.mk (fun q => Chk.mk (by decide) (done 2 (by decide) ?_)) (fun p5 => ?_)
          · exact hsj.symm.trans (linkE_form hjn p1 (.inr ⟨by omega, by simpa using q⟩))
          · have p5 : lk i j = 0 := by simpa using p5
            refine ⟨⟨(j + 1, wr (s + lk i j)), by show j + 1 ≤ n; omega, (linkE_next hjn p1 (fin (fun h => h.2 p5))).symm.trans hsj⟩, by show n - (j + 1) < n - j; omega, ?_⟩
            refine wk_of [(1, some 1)] rfl ⟨rfl, ⟨rfl, rfl⟩, ⟨rfl, rfl⟩, ⟨rfl, rfl⟩, ⟨rfl, rfl⟩, ⟨rfl, rfl⟩, ⟨rfl, rfl⟩, ⟨rfl, rfl⟩, ⟨wrS (i := j) (by omega), rfl⟩, trivial⟩ ⟨RowLe.fin rfl rfl rfl rfl rfl ?_, trivial⟩
            (repeat' first | exact trivial | exact ⟨by kernel_rfl, by kernel_rfl⟩ | exact Or.inr (by kernel_rfl) | (show _ = _; kernel_rfl) | refine ⟨?_, ?_⟩)
        · have p4 : ¬ (i : Int) = j := of_decide_eq_false p4
          refine ⟨⟨(j + 1, wr (s + lk i j)), by show j + 1 ≤ n; omega, (linkE_next hjn p1 (fin (fun h => p4 (by omega)))).symm.trans hsj⟩, by show n - (j + 1) < n - j; omega, ?_⟩
          refine wk_of [(1, some 1)] rfl ⟨rfl, ⟨rfl, rfl⟩, ⟨rfl, rfl⟩, ⟨rfl, rfl⟩, ⟨rfl, rfl⟩, ⟨rfl, rfl⟩, ⟨rfl, rfl⟩, ⟨rfl, rfl⟩, ⟨wrS (i := j) (by omega), rfl⟩, trivial⟩ ⟨RowLe.fin rfl rfl rfl rfl rfl ?_, trivial⟩
          (repeat' first | exact trivial | exact ⟨by kernel_rfl, by kernel_rfl⟩ | exact Or.inr (by kernel_rfl) | (show _ = _; kernel_rfl) | refine ⟨?_, ?_⟩)
      · have h : ¬ (j : Int) < rl i := of_decide_eq_false h
        rw [show n - j = 0 by omega, linkE] at hsj
        refine Brn.mk (fun q => Chk.mk (by decide) (done 16 (by decide) ?_)) (fun q => ?_)
        · rw [if_pos (of_decide_eq_true q)] at hsj; exact hsj.symm
        · rw [if_neg (of_decide_eq_false q)] at hsj
          refine ⟨⟨i + 1, by omega, (nodesE_next hin hsj.symm).symm.trans hs⟩, by show n - (i + 1) < n - i; omega, ?_⟩
          refine wk_of [(1, some 1)] rfl ⟨rfl, ⟨rfl, rfl⟩, ⟨rfl, rfl⟩, ⟨wrS (i := i) (by omega), rfl⟩, trivial⟩ ⟨RowLe.fin rfl rfl rfl rfl rfl ?_, trivial⟩
          (repeat' first | exact trivial | exact ⟨by kernel_rfl, by kernel_rfl⟩ | exact Or.inr (by kernel_rfl) | (show _ = _; kernel_rfl) | refine ⟨?_, ?_⟩)
    · have h : ¬ (i : Int) < n := of_decide_eq_false h
      rw [show n - i = 0 by omega, nodesE] at hs
      exact AVle.nilErr hs.symm
  · trivial
end
end Go.Proofs.Ytjmidgfkocmihaa.Img
