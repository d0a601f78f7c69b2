/- The analysis of response times: what the code computes. Conditions: none. -/
import Derived.Test.YtbhbjmneglkgnaaTskE
namespace Go.Proofs.Ytbhbjmneglkgnaa.Img
open Go Go.Proofs.Ytbhbjmneglkgnaa.AI Go.Proofs
noncomputable section
set_option maxRecDepth 100000
def sLate : Sp
  | [.sl s n f, .int .i64 U] => .pre (SimA s n f (tskO f) U) (.tup [.sl 4 (cntP (lateB (tskO f) (simS (tskO f) n U.toNat) U) (simS (tskO f) n U.toNat).jn) badF, .err 0])
  | _ => .no
theorem ok9 : EntOK Try.prog TE 9 sLate := by
  refine ⟨callable_of Try.func9 (by kernel_rfl), fun args => ?_⟩
  unfold sLate
  split
  · rename_i s n f U
    rintro ⟨hs, ht, hok, h0, h1⟩
    generalize tskO f = x at *
    refine FnOK.args (m := [.sl 5 n (tskF x), .int .i64 U]) ?_ ⟨ht.le hs, .refl, trivial⟩
    clear ht hs f
    have hJ := sim_jobs (x := x) (n := n) U.toNat
    have hjn := (sim_ok hok U.toNat).jn
    have hjn2 : U.toNat * n ≤ 65536 * 8 := Nat.mul_le_mul (by omega) hok.le
    generalize hm : simS x n U.toNat = m at *
    refine fn_ofF tabsOK (specOK_cons ok23 (specOK_cons ok24 specOK_nil)) mixed Try.func9 (by kernel_rfl) ?_
    refine Chk.mk ⟨rfl, tsks_mk, hok, h0, h1⟩ ?_
    refine Brn.mk (fun h => absurd h (by decide +kernel)) (fun _ => ?_)
    refine Chk.mk ⟨rfl, tsks_mk, hok, h0, h1⟩ ?_
    refine LoopOK.mk ⟨{ j : Nat // j ≤ m.jn }, fun j => mkSt [(0, .sl 5 n (tskF x)), (1, .int .i64 U), (9, .own 209 (cntP (lateB x m U) j.1)), (25, .sl 4 m.jn (jobF m)), (26, .int .i64 m.jn), (27, .int .i64 j.1)]
      [(209, ⟨38, 4, cntP (lateB x m U) j.1, badF, 1, false⟩)], fun j => m.jn - j.1, ⟨⟨0, by omega⟩, ?_⟩, ?_⟩
    · rw [← hm]
      exact wk_of [(209, none)] rfl ⟨⟨rfl, rfl⟩, ⟨rfl, rfl⟩, ⟨rfl, rfl⟩, ⟨rfl, rfl⟩, ⟨rfl, rfl⟩, ⟨rfl, rfl⟩, trivial⟩ ⟨⟨rfl, rfl, rfl⟩, trivial⟩
    rintro ⟨j, hj⟩
    refine Brn.mk (fun h => ?_) (fun h => ?_)
    · have hlt : j < m.jn := dec_lt h
      have hjj := hJ j hlt
      have htl : (m.jt j).toNat < n := by omega
      have hp := hok.p _ htl
      have hd := hok.d _ htl
      have hcc := hok.c _ htl
      have hb := cnt_bd (lateB x m U) j
      have hwr : wr (m.jr j + x.d (m.jt j).toNat) = m.jr j + x.d (m.jt j).toNat := wr_id (by omega) (by omega)
      refine Chk.mk (show 0 ≤ (j : Int) ∧ (j : Int) < m.jn from ⟨by omega, by omega⟩) ?_
      refine Chk.mk (show 0 ≤ m.jt j ∧ m.jt j < n from ⟨hjj.1, hjj.2.1⟩) ?_
      refine Brn.mk (fun g1 => ?_) (fun g1 => ?_)
      · have g1 : wr (m.jr j + x.d (m.jt j).toNat) < m.jf j := of_decide_eq_true g1
        rw [hwr] at g1
        have hL : lateB x m U j = true := decide_eq_true (.inl g1)
        refine Chk.mk ⟨by show (cntP (lateB x m U) j + 1) * 32 ≤ 140737488355328; omega, by show cntP (lateB x m U) j + 1 ≤ 9223372036854775807; omega⟩ ?_
        refine ⟨⟨j + 1, by omega⟩, by show m.jn - (j + 1) < m.jn - j; omega, ?_⟩
        have hc : cntP (lateB x m U) (j + 1) = cntP (lateB x m U) j + 1 := by show cntP _ j + (if _ then 1 else 0) = _; rw [if_pos hL]
        refine wk_of [(209, some 57)] rfl ⟨⟨rfl, rfl⟩, ⟨rfl, rfl⟩, by show AV.own 57 _ = .own 57 (cntP (lateB x m U) (j + 1)); rw [hc], ⟨rfl, rfl⟩, ⟨rfl, rfl⟩, ⟨wrS (show j < 4611686018427387904 by omega), rfl⟩, trivial⟩ ⟨⟨rfl, rfl, hc, rfl, rfl, fun i j _ _ => .inl rfl⟩, trivial⟩
      · have g1 : ¬ wr (m.jr j + x.d (m.jt j).toNat) < m.jf j := of_decide_eq_false g1
        rw [hwr] at g1
        refine Brn.mk (fun g2 => ?_) (fun g2 => ?_)
        · have g2 : m.jf j < 0 := of_decide_eq_true g2
          refine Brn.mk (fun g3 => ?_) (fun g3 => ?_)
          · have g3 : wr (m.jr j + x.d (m.jt j).toNat) ≤ U := of_decide_eq_true g3
            rw [hwr] at g3
            have hL : lateB x m U j = true := decide_eq_true (.inr ⟨g2, g3⟩)
            refine Chk.mk ⟨by show (cntP (lateB x m U) j + 1) * 32 ≤ 140737488355328; omega, by show cntP (lateB x m U) j + 1 ≤ 9223372036854775807; omega⟩ ?_
            refine ⟨⟨j + 1, by omega⟩, by show m.jn - (j + 1) < m.jn - j; omega, ?_⟩
            have hc : cntP (lateB x m U) (j + 1) = cntP (lateB x m U) j + 1 := by show cntP _ j + (if _ then 1 else 0) = _; rw [if_pos hL]
            refine wk_of [(209, some 57)] rfl ⟨⟨rfl, rfl⟩, ⟨rfl, rfl⟩, by show AV.own 57 _ = .own 57 (cntP (lateB x m U) (j + 1)); rw [hc], ⟨rfl, rfl⟩, ⟨rfl, rfl⟩, ⟨wrS (show j < 4611686018427387904 by omega), rfl⟩, trivial⟩ ⟨⟨rfl, rfl, hc, rfl, rfl, fun i j _ _ => .inl rfl⟩, trivial⟩
          · have g3 : ¬ wr (m.jr j + x.d (m.jt j).toNat) ≤ U := of_decide_eq_false g3
            rw [hwr] at g3
            have hL : lateB x m U j = false := decide_eq_false (fun q => q.elim g1 fun q => g3 q.2)
            refine ⟨⟨j + 1, by omega⟩, by show m.jn - (j + 1) < m.jn - j; omega, ?_⟩
            have hc : cntP (lateB x m U) (j + 1) = cntP (lateB x m U) j := by show cntP _ j + (if _ then 1 else 0) = _; rw [if_neg (by rw [hL]; decide)]; rfl
            refine wk_of [(209, some 209)] rfl ⟨⟨rfl, rfl⟩, ⟨rfl, rfl⟩, by show AV.own 209 _ = .own 209 (cntP (lateB x m U) (j + 1)); rw [hc], ⟨rfl, rfl⟩, ⟨rfl, rfl⟩, ⟨wrS (show j < 4611686018427387904 by omega), rfl⟩, trivial⟩ ⟨⟨rfl, rfl, hc, rfl, rfl, fun i j _ _ => .inl rfl⟩, trivial⟩
        · have g2 : ¬ m.jf j < 0 := of_decide_eq_false g2
          have hL : lateB x m U j = false := decide_eq_false (fun q => q.elim g1 fun q => g2 q.1)
          refine ⟨⟨j + 1, by omega⟩, by show m.jn - (j + 1) < m.jn - j; omega, ?_⟩
          have hc : cntP (lateB x m U) (j + 1) = cntP (lateB x m U) j := by show cntP _ j + (if _ then 1 else 0) = _; rw [if_neg (by rw [hL]; decide)]; rfl
          refine wk_of [(209, some 209)] rfl ⟨⟨rfl, rfl⟩, ⟨rfl, rfl⟩, by show AV.own 209 _ = .own 209 (cntP (lateB x m U) (j + 1)); rw [hc], ⟨rfl, rfl⟩, ⟨rfl, rfl⟩, ⟨wrS (show j < 4611686018427387904 by omega), rfl⟩, trivial⟩ ⟨⟨rfl, rfl, hc, rfl, rfl, fun i j _ _ => .inl rfl⟩, trivial⟩
    · have hge : ¬ j < m.jn := dec_nlt h
      have : j = m.jn := by omega
      subst this
      exact AVle.tup2 (le2_sl .refl) (.nilErr rfl)
  · trivial

structure WorA (s n : Nat) (f : Nat → Nat → AV) (x : Tsk) (i : Int) : Prop where
  s : s = 5
  t : Tsks n f x
  ok : TskOK x n
  i0 : 0 ≤ i
  i1 : i < n
def sWor2 : Sp
  | [.sl s n f, .int .i64 i] => .pre (WorA s n f (tskO f) i) (.int .i64 (worstF (tskO f) n i.toNat))
  | _ => .no
theorem ok22c : EntOK Try.prog TE 22 sWor2 := by
  refine ⟨callable_of Try.func22 (by kernel_rfl), fun args => ?_⟩
  unfold sWor2
  split
  · rename_i s n f i
    rintro ⟨hs, ht, hok, h0, h1⟩
    generalize tskO f = x at *
    refine FnOK.args (m := [.sl 5 n (tskF x), .int .i64 i]) ?_ ⟨ht.le hs, .refl, trivial⟩
    clear ht hs f
    obtain ⟨i, rfl⟩ := Int.eq_ofNat_of_zero_le h0
    have hi : i < n := by omega
    have hn := hok.le
    have hpi := hok.p i hi
    have hci := hok.c i hi
    have hdi := hok.d i hi
    have hc : 0 ≤ (i : Int) ∧ (i : Int) < n := ⟨by omega, by omega⟩
    refine fn_ofF tabsOK (specOK_cons ok37b specOK_nil) mixed Try.func22 (by kernel_rfl) ?_
    refine Chk.mk hc ?_
    refine LoopOK.mk ⟨{ a : Nat × Int // 0 ≤ a.2 ∧ a.2 ≤ 4096 ∧ a.2 ≤ demW x i a.2 n ∧ worstF x n i = wI x n i a.1 a.2 ∧ 4097 ≤ a.2 + a.1 }, fun a => mkSt [(0, .sl 5 n (tskF x)), (1, .int .i64 i), (5, .int .i64 a.1.2)]
      [], fun a => a.1.1, ⟨⟨(4097, x.c i), by show 0 ≤ x.c i; omega, by show x.c i ≤ 4096; omega, (dem_bd hok hi (by omega) (by omega) n (Nat.le_refl _)).1, rfl, by show (4097 : Int) ≤ x.c i + 4097; omega⟩, ?_⟩, ?_⟩
    · exact wk_of [] rfl ⟨⟨rfl, rfl⟩, ⟨rfl, rfl⟩, ⟨rfl, rfl⟩, trivial⟩ trivial
    rintro ⟨⟨fu, r⟩, r0, r1, r2, r3, r4⟩
    have r0 : 0 ≤ r := r0
    have r1 : r ≤ 4096 := r1
    have r2 : r ≤ demW x i r n := r2
    have r3 : worstF x n i = wI x n i fu r := r3
    have r4 : 4097 ≤ r + (fu : Int) := r4
    refine Chk.mk hc ?_
    refine LoopOK.mk ⟨{ k : Nat // k ≤ n }, fun k => mkSt [(0, .sl 5 n (tskF x)), (1, .int .i64 i), (5, .int .i64 r), (6, .int .i64 (demW x i r k.1)), (19, .sl 5 n (tskF x)), (20, .int .i64 n), (21, .int .i64 k.1)]
      [], fun k => n - k.1, ⟨⟨0, by omega⟩, ?_⟩, ?_⟩
    · exact wk_of [] rfl ⟨⟨rfl, rfl⟩, ⟨rfl, rfl⟩, ⟨rfl, rfl⟩, ⟨rfl, rfl⟩, ⟨rfl, rfl⟩, ⟨rfl, rfl⟩, ⟨rfl, rfl⟩, trivial⟩ trivial
    rintro ⟨k, hk⟩
    have hdk := dem_bd hok hi r0 r1 k hk
    refine Brn.mk (fun h => ?_) (fun h => ?_)
    · have hkn : k < n := dec_lt h
      have hpk := hok.p k hkn
      have hck := hok.c k hkn
      have hddk := hok.d k hkn
      refine Chk.mk (show 0 ≤ (k : Int) ∧ (k : Int) < n from ⟨by omega, by omega⟩) ?_
      refine Chk.mk hc ?_
      refine Brn.mk (fun g => ?_) (fun g => ?_)
      · have g : x.q k < x.q i := of_decide_eq_true g
        refine Chk.mk (show x.p k ≠ 0 by omega) ?_
        have hb := tdiv_bd (a := r + x.p k - 1) hpk.1 (by omega)
        have m1 : 0 ≤ (r + x.p k - 1).tdiv (x.p k) * x.c k := Int.mul_nonneg hb.1 (by omega)
        have m2 : (r + x.p k - 1).tdiv (x.p k) * x.c k ≤ 8191 * 4096 := Int.mul_le_mul (by omega) (by omega) (by omega) (by omega)
        have e1 : wr (demW x i r k + wr (wr ((wr (wr (r + x.p k) - 1)).tdiv (x.p k)) * x.c k)) = demW x i r (k + 1) := by
          rw [wr_id (n := r + x.p k) (by omega) (by omega), wr_id (n := r + x.p k - 1) (by omega) (by omega), wr_id (n := (r + x.p k - 1).tdiv (x.p k)) (by omega) (by omega),
            wr_id (n := (r + x.p k - 1).tdiv (x.p k) * x.c k) (by omega) (by omega), wr_id (by omega) (by omega)]
          show _ = demW x i r k + (if x.q k < x.q i then _ else 0)
          rw [if_pos g]
        refine ⟨⟨k + 1, by omega⟩, by show n - (k + 1) < n - k; omega, ?_⟩
        exact wk_of [] rfl ⟨⟨rfl, rfl⟩, ⟨rfl, rfl⟩, ⟨rfl, rfl⟩, renI e1, ⟨rfl, rfl⟩, ⟨rfl, rfl⟩, ⟨wrS (show k < 4611686018427387904 by omega), rfl⟩, trivial⟩ trivial
      · have g : ¬ x.q k < x.q i := of_decide_eq_false g
        have e1 : demW x i r k = demW x i r (k + 1) := by
          show _ = demW x i r k + (if x.q k < x.q i then _ else 0)
          rw [if_neg g]; omega
        refine ⟨⟨k + 1, by omega⟩, by show n - (k + 1) < n - k; omega, ?_⟩
        exact wk_of [] rfl ⟨⟨rfl, rfl⟩, ⟨rfl, rfl⟩, ⟨rfl, rfl⟩, renI e1, ⟨rfl, rfl⟩, ⟨rfl, rfl⟩, ⟨wrS (show k < 4611686018427387904 by omega), rfl⟩, trivial⟩ trivial
    · have hge : ¬ k < n := dec_nlt h
      have : k = n := by omega
      subst this
      refine Chk.mk hc ?_
      obtain ⟨fv, rfl⟩ : ∃ fv, fu = fv + 1 := ⟨fu - 1, by omega⟩
      simp only [wI] at r3
      refine Brn.mk (fun g => ?_) (fun g => ?_)
      · have g : x.p i < demW x i r k := of_decide_eq_true g
        rw [if_pos g] at r3
        exact AVle.int r3.symm
      · have g : ¬ x.p i < demW x i r k := of_decide_eq_false g
        rw [if_neg g] at r3
        refine Brn.mk (fun g2 => ?_) (fun g2 => ?_)
        · have g2 : demW x i r k = r := of_decide_eq_true g2
          rw [if_pos g2] at r3
          exact AVle.int r3.symm
        · have g2 : ¬ demW x i r k = r := of_decide_eq_false g2
          rw [if_neg g2] at r3
          have hm := dem_mono (i := i) hok r0 r2 k (Nat.le_refl _)
          refine ⟨⟨(fv, demW x i r k), by show 0 ≤ demW x i r k; omega, by show demW x i r k ≤ 4096; omega, hm, r3, by show 4097 ≤ demW x i r k + (fv : Int); omega⟩, by show fv < fv + 1; omega, ?_⟩
          exact wk_of [] rfl ⟨⟨rfl, rfl⟩, ⟨rfl, rfl⟩, ⟨rfl, rfl⟩, trivial⟩ trivial
  · trivial

def sWorst2 : Sp
  | [.sl s n f] => .pre (ChkA s n f (tskO f)) (.tup [.sl 1 n (fun i _ => .int .i64 (worstF (tskO f) n i)), .err 0])
  | _ => .no
theorem ok8c : EntOK Try.prog TE 8 sWorst2 := by
  refine ⟨callable_of Try.func8 (by kernel_rfl), fun args => ?_⟩
  unfold sWorst2
  split
  · rename_i s n f
    rintro ⟨hs, ht, hok⟩
    generalize tskO f = x at *
    refine FnOK.args (m := [.sl 5 n (tskF x)]) ?_ ⟨ht.le hs, trivial⟩
    clear ht hs f
    have hn := hok.le
    refine fn_ofF tabsOK (specOK_cons ok20c (specOK_cons ok22c specOK_nil)) mixed Try.func8 (by kernel_rfl) ?_
    refine Chk.mk ⟨rfl, tsks_mk, hok⟩ ?_
    refine Brn.mk (fun h => absurd h (by decide +kernel)) (fun _ => ?_)
    refine LoopOK.mk ⟨{ i : Nat // i ≤ n }, fun i => mkSt [(0, .sl 5 n (tskF x)), (5, .own 200 i.1), (13, .int .i64 n), (14, .int .i64 i.1)]
      [(200, ⟨3, 1, i.1, fun a _ => .int .i64 (worstF x n a), 1, false⟩)], fun i => n - i.1, ⟨⟨0, by omega⟩, ?_⟩, ?_⟩
    · exact wk_of [(200, none)] rfl ⟨⟨rfl, rfl⟩, ⟨rfl, rfl⟩, ⟨rfl, rfl⟩, ⟨rfl, rfl⟩, trivial⟩ ⟨⟨rfl, rfl, rfl⟩, trivial⟩
    rintro ⟨i, hi⟩
    refine Brn.mk (fun h => ?_) (fun h => ?_)
    · have hlt : i < n := dec_lt h
      refine Chk.mk ⟨rfl, tsks_mk, hok, show (0 : Int) ≤ i by omega, show (i : Int) < n by omega⟩ ?_
      refine Chk.mk ⟨by show (i + 1) * 8 ≤ 140737488355328; omega, by show i + 1 ≤ 9223372036854775807; omega⟩ ?_
      refine ⟨⟨i + 1, by omega⟩, by show n - (i + 1) < n - i; omega, ?_⟩
      refine wk_of [(200, some 22)] rfl ⟨⟨rfl, rfl⟩, rfl, ⟨rfl, rfl⟩, ⟨wrS (show i < 4611686018427387904 by omega), rfl⟩, trivial⟩ ⟨RowLe.app (fun a => .int .i64 (worstF x n a)) rfl rfl rfl (fun a _ => rfl) rfl, trivial⟩
    · have hge : ¬ i < n := dec_nlt h
      have : i = n := by omega
      subst this
      exact AVle.tup2 (le2_sl .refl) (.nilErr rfl)
  · trivial

def sMeets : Sp
  | [.sl s n f] => .pre (ChkA s n f (tskO f)) (.tup [.bit (meetB (tskO f) n), .err 0])
  | _ => .no
theorem ok21 : EntOK Try.prog TE 21 sMeets := by
  refine ⟨callable_of Try.func21 (by kernel_rfl), fun args => ?_⟩
  unfold sMeets
  split
  · rename_i s n f
    rintro ⟨hs, ht, hok⟩
    generalize tskO f = x at *
    refine FnOK.args (m := [.sl 5 n (tskF x)]) ?_ ⟨ht.le hs, trivial⟩
    clear ht hs f
    have hn := hok.le
    refine fn_ofF tabsOK (specOK_cons ok8c specOK_nil) mixed Try.func21 (by kernel_rfl) ?_
    refine Chk.mk ⟨rfl, tsks_mk, hok⟩ ?_
    refine Brn.mk (fun h => absurd h (by decide +kernel)) (fun _ => ?_)
    refine LoopOK.mk ⟨{ i : Nat // i ≤ n ∧ cntP (missB x n) i = 0 }, fun i => mkSt [(0, .sl 5 n (tskF x)), (16, .sl 1 n (fun a _ => .int .i64 (worstF x n a))), (17, .int .i64 n), (18, .int .i64 i.1)]
      [], fun i => n - i.1, ⟨⟨0, by omega, rfl⟩, ?_⟩, ?_⟩
    · exact wk_of [] rfl ⟨⟨rfl, rfl⟩, ⟨rfl, rfl⟩, ⟨rfl, rfl⟩, ⟨rfl, rfl⟩, trivial⟩ trivial
    rintro ⟨i, hi, hz⟩
    refine Brn.mk (fun h => ?_) (fun h => ?_)
    · have hlt : i < n := dec_lt h
      have hc : 0 ≤ (i : Int) ∧ (i : Int) < n := ⟨by omega, by omega⟩
      have no : missB x n i = true → false = meetB x n := fun q => by
        symm
        unfold meetB
        rw [decide_eq_false_iff_not]
        intro e
        rw [cnt_zero e i hlt] at q
        cases q
      refine Chk.mk hc ?_
      refine Brn.mk (fun g1 => ?_) (fun g1 => ?_)
      · have g1 : worstF x n i = 0 := of_decide_eq_true g1
        exact AVle.tup2 (.bit (no (decide_eq_true (.inl g1)))) (.nilErr rfl)
      · have g1 : ¬ worstF x n i = 0 := of_decide_eq_false g1
        refine Chk.mk hc ?_
        refine Brn.mk (fun g2 => ?_) (fun g2 => ?_)
        · have g2 : x.d i < worstF x n i := of_decide_eq_true g2
          exact AVle.tup2 (.bit (no (decide_eq_true (.inr g2)))) (.nilErr rfl)
        · have g2 : ¬ x.d i < worstF x n i := of_decide_eq_false g2
          have hm : missB x n i = false := decide_eq_false (fun q => q.elim g1 g2)
          refine ⟨⟨i + 1, by omega, by simp only [cntP]; rw [hz, hm]; rfl⟩, by show n - (i + 1) < n - i; omega, ?_⟩
          exact wk_of [] rfl ⟨⟨rfl, rfl⟩, ⟨rfl, rfl⟩, ⟨rfl, rfl⟩, ⟨wrS (show i < 4611686018427387904 by omega), rfl⟩, trivial⟩ trivial
    · have hge : ¬ i < n := dec_nlt h
      have : i = n := by omega
      subst this
      exact AVle.tup2 (.bit (by unfold meetB; rw [hz]; rfl)) (.nilErr rfl)
  · trivial

theorem asg_step (x : Tsk) (n i a b : Nat) (hb : b < 5) : updF (tskF (asgI x n i)) i 4 [.int .i64 (cntP (befD x i) n : Int)] a b = tskF (asgI x n (i + 1)) a b := by
  by_cases e : a = i
  · subst e
    have : AllLt 5 fun b => updF (tskF (asgI x n a)) a 4 [.int .i64 (cntP (befD x a) n : Int)] a b = tskF (asgI x n (a + 1)) a b := by
      refine ⟨⟨⟨⟨⟨trivial, rfl⟩, rfl⟩, rfl⟩, rfl⟩, ?_⟩
      show updF (tskF (asgI x n a)) a 4 [.int .i64 (cntP (befD x a) n : Int)] a 4 = .int .i64 (if a < a + 1 then (cntP (befD x a) n : Int) else x.q a)
      rw [if_pos (by omega)]
      exact upd_at
    exact allLt this b hb
  · rw [updF_out (fun h => e h.1)]
    have : (asgI x n (i + 1)).q a = (asgI x n i).q a := by
      show (if a < i + 1 then (cntP (befD x a) n : Int) else x.q a) = if a < i then (cntP (befD x a) n : Int) else x.q a
      by_cases h : a < i
      · rw [if_pos h, if_pos (by omega)]
      · rw [if_neg h, if_neg (by omega)]
    unfold tskF
    rw [this]
    rfl
def sAsg : Sp
  | [.sl s n f] => .pre (ChkA s n f (tskO f)) (.tup [.sl 5 n (tskF (asg (tskO f) n)), .bit (meetB (asg (tskO f) n) n), .err 0])
  | _ => .no
theorem ok7 : EntOK Try.prog TE 7 sAsg := by
  refine ⟨callable_of Try.func7 (by kernel_rfl), fun args => ?_⟩
  unfold sAsg
  split
  · rename_i s n f
    rintro ⟨hs, ht, hok⟩
    generalize tskO f = x at *
    refine FnOK.args (m := [.sl 5 n (tskF x)]) ?_ ⟨ht.le hs, trivial⟩
    clear ht hs f
    have hn := hok.le
    refine fn_ofI (eat := [21]) tabsOK (specOK_cons ok20c (specOK_cons ok21 specOK_nil)) inlOK_nil mixed Try.func7 (by kernel_rfl) ?_
    refine Chk.mk ⟨rfl, tsks_mk, hok⟩ ?_
    refine Brn.mk (fun h => absurd h (by decide +kernel)) (fun _ => ?_)
    refine InlP.mk ⟨[(0, .sl 5 n (tskF x)), (19, .own 19 0), (20, .sl 5 n (tskF x))], [19, 20], [(19, ⟨33, 5, 0, badF, 0, false⟩)], ?_, rfl, ?_⟩
    · exact wk_of [(19, some 19)] rfl ⟨⟨rfl, rfl⟩, rfl, ⟨rfl, rfl⟩, trivial⟩ ⟨⟨rfl, rfl, rfl, rfl, rfl, fun i j hi _ => absurd hi (Nat.not_lt_zero _)⟩, trivial⟩
    refine Chk.mk ⟨by show (0 + n) * 40 ≤ 140737488355328; omega, by show 0 + n ≤ 9223372036854775807; omega⟩ ⟨trivial, ?_⟩
    refine LoopOK.mk ⟨{ i : Nat // i ≤ n }, fun i => mkSt [(0, .sl 5 n (tskF x)), (6, .own 200 n), (22, .sl 5 n (tskF x)), (23, .int .i64 n), (24, .int .i64 i.1)]
      [(200, ⟨33, 5, n, tskF (asgI x n i.1), 0, false⟩)], fun i => n - i.1, ⟨⟨0, by omega⟩, ?_⟩, ?_⟩
    · refine wk_of [(200, some 21)] rfl ⟨⟨rfl, rfl⟩, by show AV.own 21 (0 + n) = .own 21 n; rw [Nat.zero_add], ⟨rfl, rfl⟩, ⟨rfl, rfl⟩, ⟨rfl, rfl⟩, trivial⟩ ⟨⟨rfl, rfl, (Nat.zero_add n).symm, rfl, rfl, fun i j _ _ => .inr ?_⟩, trivial⟩
      rfl
    rintro ⟨i, hi⟩
    refine Brn.mk (fun h => ?_) (fun h => ?_)
    · have hlt : i < n := dec_lt h
      have hc : 0 ≤ (i : Int) ∧ (i : Int) < n := ⟨by omega, by omega⟩
      refine Chk.mk hc ?_
      refine LoopOK.mk ⟨{ k : Nat // k ≤ n }, fun k => mkSt [(0, .sl 5 n (tskF x)), (6, .own 200 n), (7, .int .i64 i), (8, .loc 8 0), (9, .int .i64 (cntP (befD x i) k.1)), (22, .sl 5 n (tskF x)), (23, .int .i64 n), (24, .int .i64 i), (29, .sl 5 n (tskF x)), (30, .int .i64 n), (31, .int .i64 k.1)]
        [(200, ⟨33, 5, n, tskF (asgI x n i), 0, false⟩), (8, ⟨33, 5, 1, fun _ j => tskF x i j, 0, true⟩)], fun k => n - k.1, ⟨⟨0, by omega⟩, ?_⟩, ?_⟩
      · exact wk_of [(200, some 200), (8, some 8)] rfl ⟨⟨rfl, rfl⟩, rfl, ⟨rfl, rfl⟩, rfl, ⟨rfl, rfl⟩, ⟨rfl, rfl⟩, ⟨rfl, rfl⟩, ⟨rfl, rfl⟩, ⟨rfl, rfl⟩, ⟨rfl, rfl⟩, ⟨rfl, rfl⟩, trivial⟩
          ⟨⟨rfl, rfl, rfl, rfl, rfl, fun _ _ _ _ => .inr rfl⟩, RowLe.fin rfl rfl rfl rfl rfl ⟨trivial, ⟨⟨⟨⟨⟨trivial, ⟨rfl, rfl⟩⟩, ⟨rfl, rfl⟩⟩, ⟨rfl, rfl⟩⟩, ⟨rfl, rfl⟩⟩, ⟨rfl, rfl⟩⟩⟩, trivial⟩
      rintro ⟨k, hk⟩
      have hb := cnt_bd (befD x i) k
      refine Brn.mk (fun h => ?_) (fun h => ?_)
      · have hkn : k < n := dec_lt h
        refine Chk.mk (show 0 ≤ (k : Int) ∧ (k : Int) < n from ⟨by omega, by omega⟩) ?_
        have yes : befD x i k = true → wr ((cntP (befD x i) k : Int) + 1) = ((cntP (befD x i) (k + 1) : Nat) : Int) := fun q => by
          rw [wr_id (by omega) (by omega)]
          simp only [cntP]
          rw [if_pos q]; rfl
        have no : befD x i k = false → (cntP (befD x i) k : Int) = ((cntP (befD x i) (k + 1) : Nat) : Int) := fun q => by
          simp only [cntP]
          rw [if_neg (by rw [q]; decide)]; rfl
        refine Brn.mk (fun g1 => ?_) (fun g1 => ?_)
        · have g1 : x.d k < x.d i := of_decide_eq_true g1
          refine ⟨⟨k + 1, by omega⟩, by show n - (k + 1) < n - k; omega, ?_⟩
          exact wk_of [(200, some 200), (8, some 8)] rfl ⟨⟨rfl, rfl⟩, rfl, ⟨rfl, rfl⟩, rfl, renI (yes (decide_eq_true (.inl g1))), ⟨rfl, rfl⟩, ⟨rfl, rfl⟩, ⟨rfl, rfl⟩, ⟨rfl, rfl⟩, ⟨rfl, rfl⟩, ⟨wrS (show k < 4611686018427387904 by omega), rfl⟩, trivial⟩
            ⟨⟨rfl, rfl, rfl, rfl, rfl, fun _ _ _ _ => .inr rfl⟩, RowLe.fin rfl rfl rfl rfl rfl ⟨trivial, ⟨⟨⟨⟨⟨trivial, ⟨rfl, rfl⟩⟩, ⟨rfl, rfl⟩⟩, ⟨rfl, rfl⟩⟩, ⟨rfl, rfl⟩⟩, ⟨rfl, rfl⟩⟩⟩, trivial⟩
        · have g1 : ¬ x.d k < x.d i := of_decide_eq_false g1
          refine Brn.mk (fun g2 => ?_) (fun g2 => ?_)
          · have g2 : x.d k = x.d i := of_decide_eq_true g2
            refine Brn.mk (fun g3 => ?_) (fun g3 => ?_)
            · have g3 : (k : Int) < i := of_decide_eq_true g3
              refine ⟨⟨k + 1, by omega⟩, by show n - (k + 1) < n - k; omega, ?_⟩
              exact wk_of [(200, some 200), (8, some 8)] rfl ⟨⟨rfl, rfl⟩, rfl, ⟨rfl, rfl⟩, rfl, renI (yes (decide_eq_true (.inr ⟨g2, by omega⟩))), ⟨rfl, rfl⟩, ⟨rfl, rfl⟩, ⟨rfl, rfl⟩, ⟨rfl, rfl⟩, ⟨rfl, rfl⟩, ⟨wrS (show k < 4611686018427387904 by omega), rfl⟩, trivial⟩
                ⟨⟨rfl, rfl, rfl, rfl, rfl, fun _ _ _ _ => .inr rfl⟩, RowLe.fin rfl rfl rfl rfl rfl ⟨trivial, ⟨⟨⟨⟨⟨trivial, ⟨rfl, rfl⟩⟩, ⟨rfl, rfl⟩⟩, ⟨rfl, rfl⟩⟩, ⟨rfl, rfl⟩⟩, ⟨rfl, rfl⟩⟩⟩, trivial⟩
            · have g3 : ¬ (k : Int) < i := of_decide_eq_false g3
              refine ⟨⟨k + 1, by omega⟩, by show n - (k + 1) < n - k; omega, ?_⟩
              exact wk_of [(200, some 200), (8, some 8)] rfl ⟨⟨rfl, rfl⟩, rfl, ⟨rfl, rfl⟩, rfl, renI (no (decide_eq_false (by omega))), ⟨rfl, rfl⟩, ⟨rfl, rfl⟩, ⟨rfl, rfl⟩, ⟨rfl, rfl⟩, ⟨rfl, rfl⟩, ⟨wrS (show k < 4611686018427387904 by omega), rfl⟩, trivial⟩
                ⟨⟨rfl, rfl, rfl, rfl, rfl, fun _ _ _ _ => .inr rfl⟩, RowLe.fin rfl rfl rfl rfl rfl ⟨trivial, ⟨⟨⟨⟨⟨trivial, ⟨rfl, rfl⟩⟩, ⟨rfl, rfl⟩⟩, ⟨rfl, rfl⟩⟩, ⟨rfl, rfl⟩⟩, ⟨rfl, rfl⟩⟩⟩, trivial⟩
          · have g2 : ¬ x.d k = x.d i := of_decide_eq_false g2
            refine ⟨⟨k + 1, by omega⟩, by show n - (k + 1) < n - k; omega, ?_⟩
            exact wk_of [(200, some 200), (8, some 8)] rfl ⟨⟨rfl, rfl⟩, rfl, ⟨rfl, rfl⟩, rfl, renI (no (decide_eq_false (by omega))), ⟨rfl, rfl⟩, ⟨rfl, rfl⟩, ⟨rfl, rfl⟩, ⟨rfl, rfl⟩, ⟨rfl, rfl⟩, ⟨wrS (show k < 4611686018427387904 by omega), rfl⟩, trivial⟩
              ⟨⟨rfl, rfl, rfl, rfl, rfl, fun _ _ _ _ => .inr rfl⟩, RowLe.fin rfl rfl rfl rfl rfl ⟨trivial, ⟨⟨⟨⟨⟨trivial, ⟨rfl, rfl⟩⟩, ⟨rfl, rfl⟩⟩, ⟨rfl, rfl⟩⟩, ⟨rfl, rfl⟩⟩, ⟨rfl, rfl⟩⟩⟩, trivial⟩
      · have hge : ¬ k < n := dec_nlt h
        have : k = n := by omega
        subst this
        refine Chk.mk hc ?_
        refine ⟨⟨i + 1, by omega⟩, by show k - (i + 1) < k - i; omega, ?_⟩
        exact wk_of [(200, some 200)] rfl ⟨⟨rfl, rfl⟩, rfl, ⟨rfl, rfl⟩, ⟨rfl, rfl⟩, ⟨wrS (show i < 4611686018427387904 by omega), rfl⟩, trivial⟩ ⟨⟨rfl, rfl, rfl, rfl, rfl, fun a b _ hb => .inr (asg_step x k i a b hb).symm⟩, trivial⟩
    · have hge : ¬ i < n := dec_nlt h
      have : i = n := by omega
      subst this
      refine Chk.mk ⟨rfl, tsks_mk, asg_ok hok⟩ ?_
      refine Brn.mk (fun h => absurd h (by decide +kernel)) (fun _ => ?_)
      exact AVle.tup3 (le2_sl .refl) .refl (.nilErr rfl)
  · trivial
end
end Go.Proofs.Ytbhbjmneglkgnaa.Img
