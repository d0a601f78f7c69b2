/- Priorities by deadlines that meet all deadlines by the analysis leave no job late in the simulation; no job takes longer than its worst case, and the first jobs take exactly this without offsets. Conditions: none. -/
import Derived.Test.YtbhbjmneglkgnaaTskS
import Derived.Test.YtbhbjmneglkgnaaRows
import Derived.ProofKit
namespace Go.Proofs.Ytbhbjmneglkgnaa
open Go Go.Proofs.Ytbhbjmneglkgnaa.AI Go.Proofs Go.Proofs.Ytbhbjmneglkgnaa.Img Go.ChangeShapes Go.WideShapes Go.ChangeAt Go.RowKit
noncomputable section
set_option maxRecDepth 100000

set_option maxHeartbeats 8000000 in
theorem law3 (avs : List AV) (H : ArgAll E0 9 [22] avs) : FnOK Try.prog TE 3 avs (.bit true) := by
  obtain ⟨l1, h1, rfl⟩ := argAll1 H
  obtain ⟨n, f, rfl, ht⟩ := openTsk h1
  generalize tskO f = x at ht
  show FnOK Try.prog TE 3 [.sl 5 n f] (.bit true)
  refine FnOK.args (m := [.sl 5 n (tskF x)]) ?_ ⟨ht.le rfl, trivial⟩
  clear ht h1 H f
  refine fn_ofI (eat := [143]) tabsOK (specOK_cons ok5 (specOK_cons ok6 (specOK_cons ok7 (specOK_cons ok8c (specOK_cons ok9 (specOK_cons ok10 specOK_nil)))))) inlOK_nil mixed Try.func3 (by kernel_rfl) ?_
  refine Chk.mk ⟨rfl, tsks_mk⟩ ?_
  refine Brn.mk (fun _ => AVle.bit rfl) (fun hc => ?_)
  have hok : TskOK x n := chkT_zero (ndF hc)
  have hn := hok.le
  have hy := asg_ok hok
  have hz := noO_ok hy
  refine Chk.mk ⟨rfl, tsks_mk, hok⟩ ?_
  refine Chk.mk ⟨rfl, tsks_mk, hy⟩ ?_
  refine Brn.mk (fun q => absurd q (by decide +kernel)) (fun _ => ?_)
  refine Brn.mk (fun q => absurd q (by decide +kernel)) (fun _ => ?_)
  refine Brn.mk (fun q => absurd rfl (ndT (p := (n : Int) = n) q)) (fun _ => ?_)
  refine Brn.mk (fun q => absurd rfl (ndT (p := (n : Int) = n) q)) (fun _ => ?_)
  refine LoopOK.mk ⟨{ k : Nat // k ≤ n }, fun k => mkSt [(3, .sl 5 n (tskF (asg x n))), (4, .bit (meetB (asg x n) n)), (6, .sl 1 n (wrsF (asg x n) n)), (8, .int .i64 (unt x k.1)), (59, .sl 5 n (tskF x)), (60, .int .i64 n), (61, .int .i64 k.1)] [], fun k => n - k.1, ⟨⟨0, by omega⟩, ?_⟩, ?_⟩
  · exact wk_of [] rfl ⟨⟨rfl, rfl⟩, ⟨rfl, rfl⟩, ⟨rfl, rfl⟩, ⟨rfl, rfl⟩, ⟨rfl, rfl⟩, ⟨rfl, rfl⟩, ⟨rfl, rfl⟩, trivial⟩ trivial
  rintro ⟨k, hk⟩
  refine Brn.mk (fun h => ?_) (fun h => ?_)
  · have hkn : k < n := dec_lt h
    have hp := hok.p k hkn
    refine Chk.mk (show 0 ≤ (k : Int) ∧ (k : Int) < n from ⟨by omega, by omega⟩) ?_
    refine ⟨⟨k + 1, by omega⟩, by show n - (k + 1) < n - k; omega, ?_⟩
    exact wk_of [] rfl ⟨⟨rfl, rfl⟩, ⟨rfl, rfl⟩, ⟨rfl, rfl⟩, renI (show min 8000 (max (unt x k) (wr (3 * x.p k))) = unt x (k + 1) by rw [wr_id (by omega) (by omega)]; rfl), ⟨rfl, rfl⟩, ⟨rfl, rfl⟩, ⟨wrS (show k < 4611686018427387904 by omega), rfl⟩, trivial⟩ trivial
  have hge : ¬ k < n := dec_nlt h
  have hkn : k = n := by omega
  subst hkn
  have hU := unt_bd x k
  have hUu : ((unt x k).toNat : Int) = unt x k := by omega
  refine Chk.mk ⟨rfl, tsks_mk, hy, show (0 : Int) ≤ unt x k by omega, show unt x k ≤ 65536 by omega⟩ ?_
  refine Chk.mk ⟨rfl, tsks_mk, hy, show (0 : Int) ≤ unt x k by omega, show unt x k ≤ 65536 by omega⟩ ?_
  refine Brn.mk (fun q => absurd q (by decide +kernel)) (fun _ => ?_)
  refine Brn.mk (fun q => absurd q (by decide +kernel)) (fun _ => ?_)
  have hjn := (sim_ok hy (unt x k).toNat).jn
  have hjn2 : (unt x k).toNat * k ≤ 8000 * 8 := Nat.mul_le_mul (by omega) hn
  have rest : ∀ {σ : St}, σ.t 3 = .sl 5 k (tskF (asg x k)) → σ.t 6 = .sl 1 k (wrsF (asg x k) k) → σ.t 8 = .int .i64 (unt x k) → True := fun _ _ _ => trivial
  clear rest
  refine Brn.mk (fun hm => ?_) (fun hm => ?_)
  · have hm : meetB (asg x k) k = true := hm
    have hl := late_no hy hm (unt x k).toNat
    rw [hUu] at hl
    refine Brn.mk (fun q => absurd (show (0 : Int) < ((cntP (lateB (asg x k) (simS (asg x k) k (unt x k).toNat) (unt x k)) (simS (asg x k) k (unt x k).toNat).jn : Nat) : Int) from of_decide_eq_true q) (by rw [hl]; decide)) (fun _ => ?_)
    refine LoopOK.mk ⟨{ j : Nat // j ≤ (simS (asg x k) k (unt x k).toNat).jn }, fun j => mkSt [(3, .sl 5 k (tskF (asg x k))), (6, .sl 1 k (wrsF (asg x k) k)), (8, .int .i64 (unt x k)), (98, .sl 4 (simS (asg x k) k (unt x k).toNat).jn (jobF (simS (asg x k) k (unt x k).toNat))), (99, .int .i64 (simS (asg x k) k (unt x k).toNat).jn), (100, .int .i64 j.1)] [], fun j => (simS (asg x k) k (unt x k).toNat).jn - j.1, ⟨⟨0, by omega⟩, ?_⟩, ?_⟩
    · exact wk_of [] rfl ⟨⟨rfl, rfl⟩, ⟨rfl, rfl⟩, ⟨rfl, rfl⟩, ⟨rfl, rfl⟩, ⟨rfl, rfl⟩, ⟨rfl, rfl⟩, trivial⟩ trivial
    rintro ⟨j, hj⟩
    refine Brn.mk (fun h => ?_) (fun h => ?_)
    · have hlt : j < (simS (asg x k) k (unt x k).toNat).jn := dec_lt h
      have hjj : 0 ≤ (simS (asg x k) k (unt x k).toNat).jt j ∧ (simS (asg x k) k (unt x k).toNat).jt j < k ∧ 0 ≤ (simS (asg x k) k (unt x k).toNat).jr j ∧ (simS (asg x k) k (unt x k).toNat).jr j ≤ (((unt x k).toNat : Nat) : Int) := sim_jobs _ j hlt
      have hjr := job_rng hy hlt
      have hix : 0 ≤ (simS (asg x k) k (unt x k).toNat).jt j ∧ (simS (asg x k) k (unt x k).toNat).jt j < k := ⟨hjj.1, hjj.2.1⟩
      have next : ∀ {E : Env} {σ : St}, E.keep = [] → RenT (srcE [] []) σ [(3, .sl 5 k (tskF (asg x k))), (6, .sl 1 k (wrsF (asg x k) k)), (8, .int .i64 (unt x k)), (98, .sl 4 (simS (asg x k) k (unt x k).toNat).jn (jobF (simS (asg x k) k (unt x k).toNat))), (99, .int .i64 (simS (asg x k) k (unt x k).toNat).jn), (100, .int .i64 ((j + 1 : Nat) : Int))] →
          Wk E σ (mkSt [(3, .sl 5 k (tskF (asg x k))), (6, .sl 1 k (wrsF (asg x k) k)), (8, .int .i64 (unt x k)), (98, .sl 4 (simS (asg x k) k (unt x k).toNat).jn (jobF (simS (asg x k) k (unt x k).toNat))), (99, .int .i64 (simS (asg x k) k (unt x k).toNat).jn), (100, .int .i64 ((j + 1 : Nat) : Int))] []) := fun hE hT => wk_of [] rfl hT trivial (by rw [hE]; rfl)
      refine Chk.mk (show 0 ≤ (j : Int) ∧ (j : Int) < (simS (asg x k) k (unt x k).toNat).jn from ⟨by omega, by omega⟩) ?_
      refine Brn.mk (fun q => absurd (show (simS (asg x k) k (unt x k).toNat).jt j < 0 from of_decide_eq_true q) (by omega)) (fun _ => ?_)
      refine Brn.mk (fun q => absurd (show (k : Int) ≤ (simS (asg x k) k (unt x k).toNat).jt j from of_decide_eq_true q) (by omega)) (fun _ => ?_)
      refine Chk.mk hix ?_
      refine Brn.mk (fun g1 => ?_) (fun _ => ?_)
      · have g1 : 0 < worstF (asg x k) k ((simS (asg x k) k (unt x k).toNat).jt j).toNat := of_decide_eq_true g1
        refine Brn.mk (fun g2 => ?_) (fun _ => ?_)
        · have g2 : 0 ≤ (simS (asg x k) k (unt x k).toNat).jf j := of_decide_eq_true g2
          have hb := job_bd hy hlt g1 g2
          refine Chk.mk hix ?_
          refine Brn.mk (fun g3 => ?_) (fun _ => ?_)
          · have g3 : worstF (asg x k) k ((simS (asg x k) k (unt x k).toNat).jt j).toNat < wr ((simS (asg x k) k (unt x k).toNat).jf j - (simS (asg x k) k (unt x k).toNat).jr j) := of_decide_eq_true g3
            rw [wr_id (by omega) (by omega)] at g3
            omega
          · refine ⟨⟨j + 1, by omega⟩, by show (simS (asg x k) k (unt x k).toNat).jn - (j + 1) < (simS (asg x k) k (unt x k).toNat).jn - j; omega, ?_⟩
            exact next rfl ⟨⟨rfl, rfl⟩, ⟨rfl, rfl⟩, ⟨rfl, rfl⟩, ⟨rfl, rfl⟩, ⟨rfl, rfl⟩, ⟨wrS (show j < 4611686018427387904 by omega), rfl⟩, trivial⟩
        · refine ⟨⟨j + 1, by omega⟩, by show (simS (asg x k) k (unt x k).toNat).jn - (j + 1) < (simS (asg x k) k (unt x k).toNat).jn - j; omega, ?_⟩
          exact next rfl ⟨⟨rfl, rfl⟩, ⟨rfl, rfl⟩, ⟨rfl, rfl⟩, ⟨rfl, rfl⟩, ⟨rfl, rfl⟩, ⟨wrS (show j < 4611686018427387904 by omega), rfl⟩, trivial⟩
      · refine ⟨⟨j + 1, by omega⟩, by show (simS (asg x k) k (unt x k).toNat).jn - (j + 1) < (simS (asg x k) k (unt x k).toNat).jn - j; omega, ?_⟩
        exact next rfl ⟨⟨rfl, rfl⟩, ⟨rfl, rfl⟩, ⟨rfl, rfl⟩, ⟨rfl, rfl⟩, ⟨rfl, rfl⟩, ⟨wrS (show j < 4611686018427387904 by omega), rfl⟩, trivial⟩
    refine InlP.mk ⟨[(6, .sl 1 k (wrsF (asg x k) k)), (8, .int .i64 (unt x k)), (141, .own 141 0), (142, .sl 5 k (tskF (asg x k)))], [141, 142], [(141, ⟨33, 5, 0, badF, 0, false⟩)], ?_, rfl, ?_⟩
    · exact wk_of [(141, some 141)] rfl ⟨⟨rfl, rfl⟩, ⟨rfl, rfl⟩, rfl, ⟨rfl, rfl⟩, trivial⟩ ⟨⟨rfl, rfl, rfl, rfl, rfl, fun i j hi _ => absurd hi (Nat.not_lt_zero _)⟩, trivial⟩
    refine Chk.mk ⟨by show (0 + k) * 40 ≤ 140737488355328; omega, by show 0 + k ≤ 9223372036854775807; omega⟩ ⟨trivial, ?_⟩
    refine LoopOK.mk ⟨{ i : Nat // i ≤ k }, fun i => mkSt [(6, .sl 1 k (wrsF (asg x k) k)), (8, .int .i64 (unt x k)), (17, .own 200 k), (145, .int .i64 k), (146, .int .i64 i.1)]
      [(200, ⟨33, 5, k, tskF (noO (asg x k) i.1), 0, false⟩)], fun i => k - i.1, ⟨⟨0, by omega⟩, ?_⟩, ?_⟩
    · refine wk_of [(200, some 143)] rfl ⟨⟨rfl, rfl⟩, ⟨rfl, rfl⟩, by show AV.own 143 (0 + k) = .own 143 k; rw [Nat.zero_add], renI (by rw [Nat.zero_add]), ⟨rfl, rfl⟩, trivial⟩ ⟨⟨rfl, rfl, (Nat.zero_add k).symm, rfl, rfl, fun i j _ _ => .inr rfl⟩, trivial⟩
    rintro ⟨i, hi⟩
    refine Brn.mk (fun h => ?_) (fun h => ?_)
    · have hlt : i < k := dec_lt h
      refine Chk.mk (show 0 ≤ (i : Int) ∧ (i : Int) < k from ⟨by omega, by omega⟩) ?_
      refine ⟨⟨i + 1, by omega⟩, by show k - (i + 1) < k - i; omega, ?_⟩
      exact wk_of [(200, some 200)] rfl ⟨⟨rfl, rfl⟩, ⟨rfl, rfl⟩, rfl, ⟨rfl, rfl⟩, ⟨wrS (show i < 4611686018427387904 by omega), rfl⟩, trivial⟩ ⟨⟨rfl, rfl, rfl, rfl, rfl, fun a b _ hb => .inr (noO_step (asg x k) i a b hb).symm⟩, trivial⟩
    have hge2 : ¬ i < k := dec_nlt h
    have hin : i = k := by omega
    subst hin
    obtain ⟨v, hv⟩ : ∃ v, (unt x i).toNat = v + 1 := ⟨(unt x i).toNat - 1, by omega⟩
    have ho : ∀ k, k < i → (noO (asg x i) i).o k = 0 := fun k hk => if_pos hk
    obtain ⟨f1, f2⟩ := first_jobs ho v
    rw [← hv] at f1 f2
    refine Chk.mk ⟨rfl, tsks_mk, hz, show (0 : Int) ≤ unt x i by omega, show unt x i ≤ 65536 by omega⟩ ?_
    refine Brn.mk (fun q => absurd q (by decide +kernel)) (fun _ => ?_)
    refine Brn.mk (fun q => absurd (show ((simS (noO (asg x i) i) i (unt x i).toNat).jn : Int) < i from of_decide_eq_true q) (by omega)) (fun _ => ?_)
    refine LoopOK.mk ⟨{ z : Nat // z ≤ i }, fun z => mkSt [(6, .sl 1 i (wrsF (asg x i) i)), (8, .int .i64 (unt x i)), (13, .sl 4 (simS (noO (asg x i) i) i (unt x i).toNat).jn (jobF (simS (noO (asg x i) i) i (unt x i).toNat))), (170, .int .i64 i), (171, .int .i64 z.1)] [], fun z => i - z.1, ⟨⟨0, by omega⟩, ?_⟩, ?_⟩
    · exact wk_of [] rfl ⟨⟨rfl, rfl⟩, ⟨rfl, rfl⟩, ⟨rfl, rfl⟩, ⟨rfl, rfl⟩, ⟨rfl, rfl⟩, trivial⟩ trivial
    rintro ⟨a, ha⟩
    refine Brn.mk (fun h => ?_) (fun _ => AVle.bit rfl)
    have hlt : a < i := dec_lt h
    have hixa : 0 ≤ (a : Int) ∧ (a : Int) < i := ⟨by omega, by omega⟩
    have hixj : 0 ≤ (a : Int) ∧ (a : Int) < (simS (noO (asg x i) i) i (unt x i).toNat).jn := ⟨by omega, by omega⟩
    refine Chk.mk hixa ?_
    refine Brn.mk (fun g1 => ?_) (fun _ => ?_)
    · have g1 : 0 < worstF (asg x i) i a := of_decide_eq_true g1
      refine Chk.mk hixa ?_
      refine Brn.mk (fun g2 => ?_) (fun _ => ?_)
      · have g2 : worstF (asg x i) i a ≤ unt x i := of_decide_eq_true g2
        have hff := first_fin hz ho (u := (unt x i).toNat) (by omega) hlt (by rw [worst_noO]; exact g1) (by rw [worst_noO]; omega)
        rw [worst_noO] at hff
        refine Chk.mk hixj ?_
        refine Brn.mk (fun q => absurd (f2 a hlt).1 (ndT (p := (simS (noO (asg x i) i) i (unt x i).toNat).jt a = a) q)) (fun _ => ?_)
        refine Chk.mk hixj ?_
        refine Chk.mk hixa ?_
        refine Brn.mk (fun q => absurd hff (ndT (p := (simS (noO (asg x i) i) i (unt x i).toNat).jf a = worstF (asg x i) i a) q)) (fun _ => ?_)
        refine ⟨⟨a + 1, by omega⟩, by show i - (a + 1) < i - a; omega, ?_⟩
        exact wk_of [] rfl ⟨⟨rfl, rfl⟩, ⟨rfl, rfl⟩, ⟨rfl, rfl⟩, ⟨rfl, rfl⟩, ⟨wrS (show a < 4611686018427387904 by omega), rfl⟩, trivial⟩ trivial
      · refine ⟨⟨a + 1, by omega⟩, by show i - (a + 1) < i - a; omega, ?_⟩
        exact wk_of [] rfl ⟨⟨rfl, rfl⟩, ⟨rfl, rfl⟩, ⟨rfl, rfl⟩, ⟨rfl, rfl⟩, ⟨wrS (show a < 4611686018427387904 by omega), rfl⟩, trivial⟩ trivial
    · refine ⟨⟨a + 1, by omega⟩, by show i - (a + 1) < i - a; omega, ?_⟩
      exact wk_of [] rfl ⟨⟨rfl, rfl⟩, ⟨rfl, rfl⟩, ⟨rfl, rfl⟩, ⟨rfl, rfl⟩, ⟨wrS (show a < 4611686018427387904 by omega), rfl⟩, trivial⟩ trivial
  · refine LoopOK.mk ⟨{ j : Nat // j ≤ (simS (asg x k) k (unt x k).toNat).jn }, fun j => mkSt [(3, .sl 5 k (tskF (asg x k))), (6, .sl 1 k (wrsF (asg x k) k)), (8, .int .i64 (unt x k)), (98, .sl 4 (simS (asg x k) k (unt x k).toNat).jn (jobF (simS (asg x k) k (unt x k).toNat))), (99, .int .i64 (simS (asg x k) k (unt x k).toNat).jn), (100, .int .i64 j.1)] [], fun j => (simS (asg x k) k (unt x k).toNat).jn - j.1, ⟨⟨0, by omega⟩, ?_⟩, ?_⟩
    · exact wk_of [] rfl ⟨⟨rfl, rfl⟩, ⟨rfl, rfl⟩, ⟨rfl, rfl⟩, ⟨rfl, rfl⟩, ⟨rfl, rfl⟩, ⟨rfl, rfl⟩, trivial⟩ trivial
    rintro ⟨j, hj⟩
    refine Brn.mk (fun h => ?_) (fun h => ?_)
    · have hlt : j < (simS (asg x k) k (unt x k).toNat).jn := dec_lt h
      have hjj : 0 ≤ (simS (asg x k) k (unt x k).toNat).jt j ∧ (simS (asg x k) k (unt x k).toNat).jt j < k ∧ 0 ≤ (simS (asg x k) k (unt x k).toNat).jr j ∧ (simS (asg x k) k (unt x k).toNat).jr j ≤ (((unt x k).toNat : Nat) : Int) := sim_jobs _ j hlt
      have hjr := job_rng hy hlt
      have hix : 0 ≤ (simS (asg x k) k (unt x k).toNat).jt j ∧ (simS (asg x k) k (unt x k).toNat).jt j < k := ⟨hjj.1, hjj.2.1⟩
      have next : ∀ {E : Env} {σ : St}, E.keep = [] → RenT (srcE [] []) σ [(3, .sl 5 k (tskF (asg x k))), (6, .sl 1 k (wrsF (asg x k) k)), (8, .int .i64 (unt x k)), (98, .sl 4 (simS (asg x k) k (unt x k).toNat).jn (jobF (simS (asg x k) k (unt x k).toNat))), (99, .int .i64 (simS (asg x k) k (unt x k).toNat).jn), (100, .int .i64 ((j + 1 : Nat) : Int))] →
          Wk E σ (mkSt [(3, .sl 5 k (tskF (asg x k))), (6, .sl 1 k (wrsF (asg x k) k)), (8, .int .i64 (unt x k)), (98, .sl 4 (simS (asg x k) k (unt x k).toNat).jn (jobF (simS (asg x k) k (unt x k).toNat))), (99, .int .i64 (simS (asg x k) k (unt x k).toNat).jn), (100, .int .i64 ((j + 1 : Nat) : Int))] []) := fun hE hT => wk_of [] rfl hT trivial (by rw [hE]; rfl)
      refine Chk.mk (show 0 ≤ (j : Int) ∧ (j : Int) < (simS (asg x k) k (unt x k).toNat).jn from ⟨by omega, by omega⟩) ?_
      refine Brn.mk (fun q => absurd (show (simS (asg x k) k (unt x k).toNat).jt j < 0 from of_decide_eq_true q) (by omega)) (fun _ => ?_)
      refine Brn.mk (fun q => absurd (show (k : Int) ≤ (simS (asg x k) k (unt x k).toNat).jt j from of_decide_eq_true q) (by omega)) (fun _ => ?_)
      refine Chk.mk hix ?_
      refine Brn.mk (fun g1 => ?_) (fun _ => ?_)
      · have g1 : 0 < worstF (asg x k) k ((simS (asg x k) k (unt x k).toNat).jt j).toNat := of_decide_eq_true g1
        refine Brn.mk (fun g2 => ?_) (fun _ => ?_)
        · have g2 : 0 ≤ (simS (asg x k) k (unt x k).toNat).jf j := of_decide_eq_true g2
          have hb := job_bd hy hlt g1 g2
          refine Chk.mk hix ?_
          refine Brn.mk (fun g3 => ?_) (fun _ => ?_)
          · have g3 : worstF (asg x k) k ((simS (asg x k) k (unt x k).toNat).jt j).toNat < wr ((simS (asg x k) k (unt x k).toNat).jf j - (simS (asg x k) k (unt x k).toNat).jr j) := of_decide_eq_true g3
            rw [wr_id (by omega) (by omega)] at g3
            omega
          · refine ⟨⟨j + 1, by omega⟩, by show (simS (asg x k) k (unt x k).toNat).jn - (j + 1) < (simS (asg x k) k (unt x k).toNat).jn - j; omega, ?_⟩
            exact next rfl ⟨⟨rfl, rfl⟩, ⟨rfl, rfl⟩, ⟨rfl, rfl⟩, ⟨rfl, rfl⟩, ⟨rfl, rfl⟩, ⟨wrS (show j < 4611686018427387904 by omega), rfl⟩, trivial⟩
        · refine ⟨⟨j + 1, by omega⟩, by show (simS (asg x k) k (unt x k).toNat).jn - (j + 1) < (simS (asg x k) k (unt x k).toNat).jn - j; omega, ?_⟩
          exact next rfl ⟨⟨rfl, rfl⟩, ⟨rfl, rfl⟩, ⟨rfl, rfl⟩, ⟨rfl, rfl⟩, ⟨rfl, rfl⟩, ⟨wrS (show j < 4611686018427387904 by omega), rfl⟩, trivial⟩
      · refine ⟨⟨j + 1, by omega⟩, by show (simS (asg x k) k (unt x k).toNat).jn - (j + 1) < (simS (asg x k) k (unt x k).toNat).jn - j; omega, ?_⟩
        exact next rfl ⟨⟨rfl, rfl⟩, ⟨rfl, rfl⟩, ⟨rfl, rfl⟩, ⟨rfl, rfl⟩, ⟨rfl, rfl⟩, ⟨wrS (show j < 4611686018427387904 by omega), rfl⟩, trivial⟩
    refine InlP.mk ⟨[(6, .sl 1 k (wrsF (asg x k) k)), (8, .int .i64 (unt x k)), (141, .own 141 0), (142, .sl 5 k (tskF (asg x k)))], [141, 142], [(141, ⟨33, 5, 0, badF, 0, false⟩)], ?_, rfl, ?_⟩
    · exact wk_of [(141, some 141)] rfl ⟨⟨rfl, rfl⟩, ⟨rfl, rfl⟩, rfl, ⟨rfl, rfl⟩, trivial⟩ ⟨⟨rfl, rfl, rfl, rfl, rfl, fun i j hi _ => absurd hi (Nat.not_lt_zero _)⟩, trivial⟩
    refine Chk.mk ⟨by show (0 + k) * 40 ≤ 140737488355328; omega, by show 0 + k ≤ 9223372036854775807; omega⟩ ⟨trivial, ?_⟩
    refine LoopOK.mk ⟨{ i : Nat // i ≤ k }, fun i => mkSt [(6, .sl 1 k (wrsF (asg x k) k)), (8, .int .i64 (unt x k)), (17, .own 200 k), (145, .int .i64 k), (146, .int .i64 i.1)]
      [(200, ⟨33, 5, k, tskF (noO (asg x k) i.1), 0, false⟩)], fun i => k - i.1, ⟨⟨0, by omega⟩, ?_⟩, ?_⟩
    · refine wk_of [(200, some 143)] rfl ⟨⟨rfl, rfl⟩, ⟨rfl, rfl⟩, by show AV.own 143 (0 + k) = .own 143 k; rw [Nat.zero_add], renI (by rw [Nat.zero_add]), ⟨rfl, rfl⟩, trivial⟩ ⟨⟨rfl, rfl, (Nat.zero_add k).symm, rfl, rfl, fun i j _ _ => .inr rfl⟩, trivial⟩
    rintro ⟨i, hi⟩
    refine Brn.mk (fun h => ?_) (fun h => ?_)
    · have hlt : i < k := dec_lt h
      refine Chk.mk (show 0 ≤ (i : Int) ∧ (i : Int) < k from ⟨by omega, by omega⟩) ?_
      refine ⟨⟨i + 1, by omega⟩, by show k - (i + 1) < k - i; omega, ?_⟩
      exact wk_of [(200, some 200)] rfl ⟨⟨rfl, rfl⟩, ⟨rfl, rfl⟩, rfl, ⟨rfl, rfl⟩, ⟨wrS (show i < 4611686018427387904 by omega), rfl⟩, trivial⟩ ⟨⟨rfl, rfl, rfl, rfl, rfl, fun a b _ hb => .inr (noO_step (asg x k) i a b hb).symm⟩, trivial⟩
    have hge2 : ¬ i < k := dec_nlt h
    have hin : i = k := by omega
    subst hin
    obtain ⟨v, hv⟩ : ∃ v, (unt x i).toNat = v + 1 := ⟨(unt x i).toNat - 1, by omega⟩
    have ho : ∀ k, k < i → (noO (asg x i) i).o k = 0 := fun k hk => if_pos hk
    obtain ⟨f1, f2⟩ := first_jobs ho v
    rw [← hv] at f1 f2
    refine Chk.mk ⟨rfl, tsks_mk, hz, show (0 : Int) ≤ unt x i by omega, show unt x i ≤ 65536 by omega⟩ ?_
    refine Brn.mk (fun q => absurd q (by decide +kernel)) (fun _ => ?_)
    refine Brn.mk (fun q => absurd (show ((simS (noO (asg x i) i) i (unt x i).toNat).jn : Int) < i from of_decide_eq_true q) (by omega)) (fun _ => ?_)
    refine LoopOK.mk ⟨{ z : Nat // z ≤ i }, fun z => mkSt [(6, .sl 1 i (wrsF (asg x i) i)), (8, .int .i64 (unt x i)), (13, .sl 4 (simS (noO (asg x i) i) i (unt x i).toNat).jn (jobF (simS (noO (asg x i) i) i (unt x i).toNat))), (170, .int .i64 i), (171, .int .i64 z.1)] [], fun z => i - z.1, ⟨⟨0, by omega⟩, ?_⟩, ?_⟩
    · exact wk_of [] rfl ⟨⟨rfl, rfl⟩, ⟨rfl, rfl⟩, ⟨rfl, rfl⟩, ⟨rfl, rfl⟩, ⟨rfl, rfl⟩, trivial⟩ trivial
    rintro ⟨a, ha⟩
    refine Brn.mk (fun h => ?_) (fun _ => AVle.bit rfl)
    have hlt : a < i := dec_lt h
    have hixa : 0 ≤ (a : Int) ∧ (a : Int) < i := ⟨by omega, by omega⟩
    have hixj : 0 ≤ (a : Int) ∧ (a : Int) < (simS (noO (asg x i) i) i (unt x i).toNat).jn := ⟨by omega, by omega⟩
    refine Chk.mk hixa ?_
    refine Brn.mk (fun g1 => ?_) (fun _ => ?_)
    · have g1 : 0 < worstF (asg x i) i a := of_decide_eq_true g1
      refine Chk.mk hixa ?_
      refine Brn.mk (fun g2 => ?_) (fun _ => ?_)
      · have g2 : worstF (asg x i) i a ≤ unt x i := of_decide_eq_true g2
        have hff := first_fin hz ho (u := (unt x i).toNat) (by omega) hlt (by rw [worst_noO]; exact g1) (by rw [worst_noO]; omega)
        rw [worst_noO] at hff
        refine Chk.mk hixj ?_
        refine Brn.mk (fun q => absurd (f2 a hlt).1 (ndT (p := (simS (noO (asg x i) i) i (unt x i).toNat).jt a = a) q)) (fun _ => ?_)
        refine Chk.mk hixj ?_
        refine Chk.mk hixa ?_
        refine Brn.mk (fun q => absurd hff (ndT (p := (simS (noO (asg x i) i) i (unt x i).toNat).jf a = worstF (asg x i) i a) q)) (fun _ => ?_)
        refine ⟨⟨a + 1, by omega⟩, by show i - (a + 1) < i - a; omega, ?_⟩
        exact wk_of [] rfl ⟨⟨rfl, rfl⟩, ⟨rfl, rfl⟩, ⟨rfl, rfl⟩, ⟨rfl, rfl⟩, ⟨wrS (show a < 4611686018427387904 by omega), rfl⟩, trivial⟩ trivial
      · refine ⟨⟨a + 1, by omega⟩, by show i - (a + 1) < i - a; omega, ?_⟩
        exact wk_of [] rfl ⟨⟨rfl, rfl⟩, ⟨rfl, rfl⟩, ⟨rfl, rfl⟩, ⟨rfl, rfl⟩, ⟨wrS (show a < 4611686018427387904 by omega), rfl⟩, trivial⟩ trivial
    · refine ⟨⟨a + 1, by omega⟩, by show i - (a + 1) < i - a; omega, ?_⟩
      exact wk_of [] rfl ⟨⟨rfl, rfl⟩, ⟨rfl, rfl⟩, ⟨rfl, rfl⟩, ⟨rfl, rfl⟩, ⟨wrS (show a < 4611686018427387904 by omega), rfl⟩, trivial⟩ trivial


theorem lifted3 (os : Os) (started : os.Started) (H : Type) (enc : TypeId × Value → H) :
    ReturnsInHanded {} Try.checked os 3 .any (Rows.wholeTasksSpec.pre6 enc Try.prog Try.f3 Rows.wholeTasksRow.domain false) (Rows.wholeTasksSpec.post enc Try.prog Try.f3 false true false false) := by
  refine returnsInHanded_of_change (C := Try.checked) own0 started (by kernel_rfl) Try.func3
    (ChangeSpec.witness6 (enc := enc) (C := Try.checked) false ⟨#[], #[.slice none 0 0], []⟩ 8 (by kernel_rfl) (by kernel_rfl) (by kernel_rfl) (by kernel_rfl)) ?_
  intro W base args ds gs before hval hW _ _
  exact law_contract tabE0 (d := 9) (tb := 4) [22] (by kernel_rfl) (by kernel_rfl) (by kernel_rfl) rfl laidOut0 (by kernel_rfl) (by kernel_rfl)
    (fun H ds h => match ds, h with | [_], _ => rfl) law3 hval hW

theorem WholeTasks_proved : Rows.WholeTasksSaid :=
  OpenClaim.holds_of_wide (p := Try.pinned) (s := Rows.wholeTasksSpec) (c := Rows.wholeTasksRow) 3 Try.f3 rfl rfl rfl rfl rfl rfl rfl ⟨rfl, rfl, rfl, rfl, rfl⟩ rfl rfl rfl rfl rfl (by kernel_rfl) Try.func3 (by kernel_rfl)
    (of_decide_eq_true (by kernel_rfl)) (by unfold Func.isWrapper; rw [if_neg (of_decide_eq_false (by kernel_rfl))]; exact ⟨rfl, rfl⟩)
    (fun os started H enc _ => lifted3 os started H enc)
end
end Go.Proofs.Ytbhbjmneglkgnaa
