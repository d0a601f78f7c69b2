/- The checks; the jobs. Conditions: none. -/
import Derived.Test.YtbhbjmneglkgnaaTop2
import Derived.Test.YtbhbjmneglkgnaaTskB
import Derived.Test.YtbhbjmneglkgnaaTskC
namespace Go.Proofs.Ytbhbjmneglkgnaa.Img
open Go Go.Proofs.Ytbhbjmneglkgnaa.AI Go.Proofs
noncomputable section
set_option maxRecDepth 100000
structure ChkA (s n : Nat) (f : Nat → Nat → AV) (x : Tsk) : Prop where
  s : s = 5
  t : Tsks n f x
  ok : TskOK x n
structure RefA (s n : Nat) (f : Nat → Nat → AV) (x : Tsk) : Prop where
  s : s = 5
  t : Tsks n f x
theorem tsks_mk {n : Nat} {x : Tsk} : Tsks n (tskF x) x := fun _ _ => ⟨⟨⟨⟨⟨trivial, rfl⟩, rfl⟩, rfl⟩, rfl⟩, rfl⟩
def sChk : Sp
  | [.sl s n f] => .pre (ChkA s n f (tskO f)) (.err 0)
  | _ => .no
def sRefChk : Sp
  | [.sl s n f] => .pre (RefA s n f (tskO f)) (.int .i64 (chkT (tskO f) n))
  | _ => .no
theorem ok20c : EntOK Try.prog TE 20 sChk := by
  refine ⟨callable_of Try.func20 (by kernel_rfl), fun args => ?_⟩
  unfold sChk
  split
  · rename_i s n f
    rintro ⟨hs, ht, hok⟩
    generalize tskO f = x at *
    have hn := hok.le
    refine FnOK.args (m := [.sl 5 n (tskF x)]) ?_ ⟨ht.le hs, trivial⟩
    clear ht hs f
    refine fn_ofF tabsOK specOK_nil mixed Try.func20 (by kernel_rfl) ?_
    refine Brn.mk (fun h => absurd (show (8 : Int) < n from of_decide_eq_true h) (by omega)) (fun _ => ?_)
    refine LoopOK.mk ⟨{ i : Nat // i ≤ n }, fun i => mkSt [(0, .sl 5 n (tskF x)), (11, .sl 5 n (tskF x)), (12, .int .i64 n), (13, .int .i64 i.1)]
      [], fun i => n - i.1, ⟨⟨0, by omega⟩, ?_⟩, ?_⟩
    · exact wk_of [] rfl ⟨⟨rfl, rfl⟩, ⟨rfl, rfl⟩, ⟨rfl, rfl⟩, ⟨rfl, rfl⟩, trivial⟩ trivial
    rintro ⟨i, hi⟩
    refine Brn.mk (fun h => ?_) (fun h => ?_)
    · have hlt : i < n := dec_lt h
      have hc : 0 ≤ (i : Int) ∧ (i : Int) < n := ⟨by omega, by omega⟩
      refine Chk.mk hc ?_
      have hp := hok.p i hlt
      have ho := hok.o i hlt
      have hcc := hok.c i hlt
      have hd := hok.d i hlt
      refine Brn.mk (fun h => absurd (show x.p i < 1 from of_decide_eq_true h) (by omega)) (fun _ => ?_)
      refine Brn.mk (fun h => absurd (show 4096 < x.p i from of_decide_eq_true h) (by omega)) (fun _ => ?_)
      refine Brn.mk (fun h => absurd (show x.o i < 0 from of_decide_eq_true h) (by omega)) (fun _ => ?_)
      refine Brn.mk (fun h => absurd (show x.p i ≤ x.o i from of_decide_eq_true h) (by omega)) (fun _ => ?_)
      refine Brn.mk (fun h => absurd (show x.c i < 1 from of_decide_eq_true h) (by omega)) (fun _ => ?_)
      refine Brn.mk (fun h => absurd (show x.d i < x.c i from of_decide_eq_true h) (by omega)) (fun _ => ?_)
      refine Brn.mk (fun h => absurd (show x.p i < x.d i from of_decide_eq_true h) (by omega)) (fun _ => ?_)
      refine Chk.mk (show 0 ≤ (i : Int) ∧ (i : Int) ≤ n from ⟨by omega, by omega⟩) ?_
      refine LoopOK.mk ⟨{ j : Nat // j ≤ i }, fun j => mkSt [(0, .sl 5 n (tskF x)), (4, .loc 4 0), (11, .sl 5 n (tskF x)), (12, .int .i64 n), (13, .int .i64 i), (60, .sl 5 i (tskF x)), (61, .int .i64 i), (62, .int .i64 j.1)]
        [(4, ⟨33, 5, 1, fun _ j => tskF x i j, 0, true⟩)], fun j => i - j.1, ⟨⟨0, by omega⟩, ?_⟩, ?_⟩
      · exact wk_of [(4, some 4)] rfl ⟨⟨rfl, rfl⟩, rfl, ⟨rfl, rfl⟩, ⟨rfl, rfl⟩, ⟨rfl, rfl⟩, ⟨rfl, rfl⟩, ⟨rfl, rfl⟩, ⟨rfl, rfl⟩, trivial⟩ ⟨RowLe.fin rfl rfl rfl rfl rfl ⟨trivial, ⟨⟨⟨⟨⟨trivial, ⟨rfl, rfl⟩⟩, ⟨rfl, rfl⟩⟩, ⟨rfl, rfl⟩⟩, ⟨rfl, rfl⟩⟩, ⟨rfl, rfl⟩⟩⟩, trivial⟩
      rintro ⟨j, hj⟩
      refine Brn.mk (fun h => ?_) (fun h => ?_)
      · have hlj : j < i := dec_lt h
        have hcj : 0 ≤ (j : Int) ∧ (j : Int) < i := ⟨by omega, by omega⟩
        refine Chk.mk hcj ?_
        refine Brn.mk (fun h => absurd (show x.q j = x.q i from of_decide_eq_true h) (hok.q i j hlt hlj)) (fun _ => ?_)
        refine ⟨⟨j + 1, by omega⟩, by show i - (j + 1) < i - j; omega, ?_⟩
        exact wk_of [(4, some 4)] rfl ⟨⟨rfl, rfl⟩, rfl, ⟨rfl, rfl⟩, ⟨rfl, rfl⟩, ⟨rfl, rfl⟩, ⟨rfl, rfl⟩, ⟨rfl, rfl⟩, ⟨wrS (show j < 4611686018427387904 by omega), rfl⟩, trivial⟩ ⟨RowLe.fin rfl rfl rfl rfl rfl ⟨trivial, ⟨⟨⟨⟨⟨trivial, ⟨rfl, rfl⟩⟩, ⟨rfl, rfl⟩⟩, ⟨rfl, rfl⟩⟩, ⟨rfl, rfl⟩⟩, ⟨rfl, rfl⟩⟩⟩, trivial⟩
      · refine ⟨⟨i + 1, by omega⟩, by show n - (i + 1) < n - i; omega, ?_⟩
        exact wk_of [] rfl ⟨⟨rfl, rfl⟩, ⟨rfl, rfl⟩, ⟨rfl, rfl⟩, ⟨wrS (show i < 4611686018427387904 by omega), rfl⟩, trivial⟩ trivial
    · exact AVle.nilErr rfl
  · trivial
theorem ok6 : EntOK Try.prog TE 6 sRefChk := by
  refine ⟨callable_of Try.func6 (by kernel_rfl), fun args => ?_⟩
  unfold sRefChk
  split
  · rename_i s n f
    rintro ⟨hs, ht⟩
    generalize tskO f = x at *
    refine FnOK.args (m := [.sl 5 n (tskF x)]) ?_ ⟨ht.le hs, trivial⟩
    clear ht hs f
    refine fn_ofF tabsOK specOK_nil mixed Try.func6 (by kernel_rfl) ?_
    refine Brn.mk (fun h => ?_) (fun h => ?_)
    · have h : (8 : Int) < n := of_decide_eq_true h
      exact AVle.int (by unfold chkT; rw [if_pos (by omega)])
    have hn : ¬ (8 : Int) < n := of_decide_eq_false h
    have hT : chkT x n = chkI x n 0 := by unfold chkT; rw [if_neg (by omega)]
    rw [hT]
    refine LoopOK.mk ⟨{ i : Nat // i ≤ n ∧ chkI x n 0 = chkI x (n - i) i }, fun i => mkSt [(0, .sl 5 n (tskF x)), (10, .sl 5 n (tskF x)), (11, .int .i64 n), (12, .int .i64 i.1)]
      [], fun i => n - i.1, ⟨⟨0, by omega, rfl⟩, ?_⟩, ?_⟩
    · exact wk_of [] rfl ⟨⟨rfl, rfl⟩, ⟨rfl, rfl⟩, ⟨rfl, rfl⟩, ⟨rfl, rfl⟩, trivial⟩ trivial
    rintro ⟨i, hi, hT⟩
    refine Brn.mk (fun h => ?_) (fun h => ?_)
    · have hlt : i < n := dec_lt h
      have hc : 0 ≤ (i : Int) ∧ (i : Int) < n := ⟨by omega, by omega⟩
      refine Chk.mk hc ?_
      have hfu : n - i = n - (i + 1) + 1 := by omega
      rw [hfu] at hT
      simp only [chkI] at hT
      refine Brn.mk (fun h => ?_) (fun h => ?_)
      · have h : x.p i < 1 := of_decide_eq_true h
        rw [if_pos (by simp only [badT, decide_eq_true_eq]; omega)] at hT
        exact AVle.int hT.symm
      have h0 : ¬ x.p i < 1 := of_decide_eq_false h
      refine Brn.mk (fun h => ?_) (fun h => ?_)
      · have h : 4096 < x.p i := of_decide_eq_true h
        rw [if_pos (by simp only [badT, decide_eq_true_eq]; omega)] at hT
        exact AVle.int hT.symm
      have h1 : ¬ 4096 < x.p i := of_decide_eq_false h
      refine Brn.mk (fun h => ?_) (fun h => ?_)
      · have h : x.o i < 0 := of_decide_eq_true h
        rw [if_pos (by simp only [badT, decide_eq_true_eq]; omega)] at hT
        exact AVle.int hT.symm
      have h2 : ¬ x.o i < 0 := of_decide_eq_false h
      refine Brn.mk (fun h => ?_) (fun h => ?_)
      · have h : x.p i ≤ x.o i := of_decide_eq_true h
        rw [if_pos (by simp only [badT, decide_eq_true_eq]; omega)] at hT
        exact AVle.int hT.symm
      have h3 : ¬ x.p i ≤ x.o i := of_decide_eq_false h
      refine Brn.mk (fun h => ?_) (fun h => ?_)
      · have h : x.c i < 1 := of_decide_eq_true h
        rw [if_pos (by simp only [badT, decide_eq_true_eq]; omega)] at hT
        exact AVle.int hT.symm
      have h4 : ¬ x.c i < 1 := of_decide_eq_false h
      refine Brn.mk (fun h => ?_) (fun h => ?_)
      · have h : x.d i < x.c i := of_decide_eq_true h
        rw [if_pos (by simp only [badT, decide_eq_true_eq]; omega)] at hT
        exact AVle.int hT.symm
      have h5 : ¬ x.d i < x.c i := of_decide_eq_false h
      refine Brn.mk (fun h => ?_) (fun h => ?_)
      · have h : x.p i < x.d i := of_decide_eq_true h
        rw [if_pos (by simp only [badT, decide_eq_true_eq]; omega)] at hT
        exact AVle.int hT.symm
      have h6 : ¬ x.p i < x.d i := of_decide_eq_false h
      rw [if_neg (by simp only [badT, decide_eq_true_eq]; omega)] at hT
      refine Chk.mk (show 0 ≤ (i : Int) ∧ (i : Int) ≤ n from ⟨by omega, by omega⟩) ?_
      refine LoopOK.mk ⟨{ j : Nat // j ≤ i ∧ cntP (twiB x i) j = 0 }, fun j => mkSt [(0, .sl 5 n (tskF x)), (4, .loc 4 0), (10, .sl 5 n (tskF x)), (11, .int .i64 n), (12, .int .i64 i), (58, .sl 5 i (tskF x)), (59, .int .i64 i), (60, .int .i64 j.1)]
        [(4, ⟨33, 5, 1, fun _ j => tskF x i j, 0, true⟩)], fun j => i - j.1, ⟨⟨0, by omega, rfl⟩, ?_⟩, ?_⟩
      · exact wk_of [(4, some 4)] rfl ⟨⟨rfl, rfl⟩, rfl, ⟨rfl, rfl⟩, ⟨rfl, rfl⟩, ⟨rfl, rfl⟩, ⟨rfl, rfl⟩, ⟨rfl, rfl⟩, ⟨rfl, rfl⟩, trivial⟩ ⟨RowLe.fin rfl rfl rfl rfl rfl ⟨trivial, ⟨⟨⟨⟨⟨trivial, ⟨rfl, rfl⟩⟩, ⟨rfl, rfl⟩⟩, ⟨rfl, rfl⟩⟩, ⟨rfl, rfl⟩⟩, ⟨rfl, rfl⟩⟩⟩, trivial⟩
      rintro ⟨j, hj, hT2⟩
      refine Brn.mk (fun h => ?_) (fun h => ?_)
      · have hlj : j < i := dec_lt h
        have hcj : 0 ≤ (j : Int) ∧ (j : Int) < i := ⟨by omega, by omega⟩
        refine Chk.mk hcj ?_
        refine Brn.mk (fun h => ?_) (fun h => ?_)
        · have h : x.q j = x.q i := of_decide_eq_true h
          rw [if_pos] at hT
          · exact AVle.int hT.symm
          · refine Nat.pos_of_ne_zero fun e => ?_
            have := cnt_zero e j hlj
            simp only [twiB, decide_eq_false_iff_not] at this
            exact this h
        have h : ¬ x.q j = x.q i := of_decide_eq_false h
        refine ⟨⟨j + 1, by omega, by simp only [cntP]; rw [hT2, if_neg (by simpa [twiB] using h)]⟩, by show i - (j + 1) < i - j; omega, ?_⟩
        exact wk_of [(4, some 4)] rfl ⟨⟨rfl, rfl⟩, rfl, ⟨rfl, rfl⟩, ⟨rfl, rfl⟩, ⟨rfl, rfl⟩, ⟨rfl, rfl⟩, ⟨rfl, rfl⟩, ⟨wrS (show j < 4611686018427387904 by omega), rfl⟩, trivial⟩ ⟨RowLe.fin rfl rfl rfl rfl rfl ⟨trivial, ⟨⟨⟨⟨⟨trivial, ⟨rfl, rfl⟩⟩, ⟨rfl, rfl⟩⟩, ⟨rfl, rfl⟩⟩, ⟨rfl, rfl⟩⟩, ⟨rfl, rfl⟩⟩⟩, trivial⟩
      · have hge : ¬ j < i := dec_nlt h
        have : j = i := by omega
        subst this
        rw [if_neg (by omega)] at hT
        refine ⟨⟨j + 1, by omega, hT⟩, by show n - (j + 1) < n - j; omega, ?_⟩
        exact wk_of [] rfl ⟨⟨rfl, rfl⟩, ⟨rfl, rfl⟩, ⟨rfl, rfl⟩, ⟨wrS (show j < 4611686018427387904 by omega), rfl⟩, trivial⟩ trivial
    · have hge : ¬ i < n := dec_nlt h
      have : i = n := by omega
      subst this
      rw [Nat.sub_self] at hT
      exact AVle.int hT.symm
  · trivial

def sGiv : Sp
  | [.sl s n f, .int .i64 U] => .pre (SimA s n f (tskO f) U) (.err 0)
  | _ => .no
theorem ok23 : EntOK Try.prog TE 23 sGiv := by
  refine ⟨callable_of Try.func23 (by kernel_rfl), fun args => ?_⟩
  unfold sGiv
  split
  · rename_i s n f U
    rintro ⟨hs, ht, hok, h0, h1⟩
    generalize tskO f = x at *
    refine FnOK.args (m := [.sl 5 n (tskF x), .int .i64 U]) ?_ ⟨ht.le hs, .refl, trivial⟩
    clear ht hs f
    refine fn_ofF tabsOK (specOK_cons ok20c specOK_nil) mixed Try.func23 (by kernel_rfl) ?_
    refine Chk.mk ⟨rfl, tsks_mk, hok⟩ ?_
    refine Brn.mk (fun h => absurd h (by decide +kernel)) (fun _ => ?_)
    refine Brn.mk (fun h => absurd (show U < 0 from of_decide_eq_true h) (by omega)) (fun _ => ?_)
    refine Brn.mk (fun h => absurd (show 65536 < U from of_decide_eq_true h) (by omega)) (fun _ => ?_)
    exact AVle.nilErr rfl
  · trivial
def sJobs : Sp
  | [.sl s n f, .int .i64 U] => .pre (SimA s n f (tskO f) U) (.tup [.sl 4 (simS (tskO f) n U.toNat).jn (jobF (simS (tskO f) n U.toNat)), .err 0])
  | _ => .no
theorem ok10 : EntOK Try.prog TE 10 sJobs := by
  refine ⟨callable_of Try.func10 (by kernel_rfl), fun args => ?_⟩
  unfold sJobs
  split
  · rename_i s n f U
    rintro ⟨hs, ht, hok, h0, h1⟩
    generalize tskO f = x at *
    refine FnOK.args (m := [.sl 5 n (tskF x), .int .i64 U]) ?_ ⟨ht.le hs, .refl, trivial⟩
    clear ht hs f
    refine fn_ofF tabsOK (specOK_cons ok23 (specOK_cons ok24 specOK_nil)) mixed Try.func10 (by kernel_rfl) ?_
    refine Chk.mk ⟨rfl, tsks_mk, hok, h0, h1⟩ ?_
    refine Brn.mk (fun h => absurd h (by decide +kernel)) (fun _ => ?_)
    refine Chk.mk ⟨rfl, tsks_mk, hok, h0, h1⟩ ?_
    exact AVle.tup2 .refl (.nilErr rfl)
  · trivial
end
end Go.Proofs.Ytbhbjmneglkgnaa.Img
