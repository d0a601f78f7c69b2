/- Chapter 37: the specification's functions. Conditions: none. -/
import Derived.Test.YtpndkmppncpkgaaPrf5
namespace Go.Proofs.Ytpndkmppncpkgaa.Img
open Go Go.Proofs.Ytpndkmppncpkgaa.AI Go.Proofs
noncomputable section
set_option maxRecDepth 100000
def absR (n : Int) : Int := if n = -9223372036854775808 then 9223372036854775807 else max n (wr (0 - n))
def sAbs : Sp
  | [.int .i64 n] => .ok (.int .i64 (absR n))
  | _ => .no
theorem ok33 : EntOK Try.prog TE 33 sAbs := by
  refine ⟨callable_of Try.func33 (by kernel_rfl), fun args => ?_⟩
  unfold sAbs
  split
  · refine fn_ofF tabsOK specOK_nil mixed Try.func33 (by kernel_rfl) ?_
    refine Brn.mk (fun h => AVle.int ?_) (fun h => AVle.int ?_)
    · exact (if_pos (of_decide_eq_true h)).symm
    · exact (if_neg (of_decide_eq_false h)).symm
  · trivial
theorem absR_ab {n : Int} (h : -1099511627776 ≤ n ∧ n ≤ 1099511627776) : absR n = ab n := by
  unfold absR ab
  rw [if_neg (by omega), wr_id (by omega) (by omega)]
  split <;> omega
theorem el_div {d v f r : Int} (B : Blk d v f r) : (d + v - 1).tdiv v = elN f r := by
  obtain ⟨v1, r0, rv, f0, dd⟩ := B
  have h0 : 0 ≤ f * v := Int.mul_nonneg f0 (by omega)
  rw [Int.tdiv_eq_ediv_of_nonneg (by omega), dd, show f * v + r + v - 1 = (r + v - 1) + f * v by omega, Int.add_mul_ediv_right _ _ (by omega)]
  unfold elN
  split
  · rename_i hr
    rw [show r + v - 1 = (r - 1) + 1 * v by omega, Int.add_mul_ediv_right _ _ (by omega), Int.ediv_eq_zero_of_lt (by omega) (by omega)]; omega
  · rw [Int.ediv_eq_zero_of_lt (by omega) (by omega)]; omega
def sEl : Sp
  | [.agg [.int .i64 d, .int .i64 v, .int .i64 a, .int .i64 b]] => .pre (pOK d v a b) (.int .i64 (elN (ab d / v) (ab d % v)))
  | _ => .no
theorem ok41 : EntOK Try.prog TE 41 sEl := by
  refine ⟨callable_of Try.func41 (by kernel_rfl), fun args => ?_⟩
  unfold sEl
  split
  · rename_i d v a b
    intro hp
    have ea := absR_ab hp.2.2.2
    have c0 := ab_nonneg d
    have c1 := hp.ad
    have hv := hp.1
    have eb := elN_bd hp
    refine fn_ofF tabsOK (specOK_cons ok33 specOK_nil) mixed Try.func41 (by kernel_rfl) ?_
    refine Chk.mk (by omega) (AVle.int ?_)
    rw [ea, wr_id (n := ab d + v) (by omega) (by omega), wr_id (n := ab d + v - 1) (by omega) (by omega), el_div hp.blk, wr_id (by omega) (by omega)]
  · trivial
def sThr : Sp
  | [.agg [.int .i64 d, .int .i64 v, .int .i64 a, .int .i64 b], .int .i64 k] => .pre (pOK d v a b) (.int .i64 (sg d * bUp v (ab d / v) (ab d) k))
  | _ => .no
theorem ok42 : EntOK Try.prog TE 42 sThr := by
  refine ⟨callable_of Try.func42 (by kernel_rfl), fun args => ?_⟩
  unfold sThr
  split
  · rename_i d v a b k
    intro hp
    have ea := absR_ab hp.2.2.2
    have c0 := ab_nonneg d
    have c1 := hp.ad
    have hv := hp.1
    have eb := elN_bd hp
    have B := hp.blk
    have u0 := bUp_nonneg B k
    have u1 := bUp_le B k
    refine fn_ofF tabsOK (specOK_cons ok33 (specOK_cons ok41 specOK_nil)) mixed Try.func42 (by kernel_rfl) ?_
    have fin : ∀ n : Int, n = bUp v (ab d / v) (ab d) k → (d < 0 → wr (0 - n) = sg d * bUp v (ab d / v) (ab d) k) ∧ (¬ d < 0 → n = sg d * bUp v (ab d / v) (ab d) k) := fun n hn => by
      subst hn
      refine ⟨fun hd => ?_, fun hd => ?_⟩
      · rw [wr_id (by omega) (by omega), show sg d = -1 from if_pos hd]; omega
      · rw [show sg d = 1 from if_neg hd]; omega
    refine Chk.mk hp ?_
    refine Brn.mk (fun h => ?_) (fun h => ?_)
    · have h : elN (ab d / v) (ab d % v) ≤ k := of_decide_eq_true h
      have F := fin (absR d) (by
        rw [ea]
        by_cases hk : 0 ≤ k
        · exact (bUp_end B (by omega) hk).symm
        · have h0 : elN (ab d / v) (ab d % v) ≤ k := h
          omega)
      exact Brn.mk (fun hd => AVle.int (F.1 (of_decide_eq_true hd))) (fun hd => AVle.int (F.2 (of_decide_eq_false hd)))
    have h : ¬ elN (ab d / v) (ab d % v) ≤ k := of_decide_eq_false h
    refine Brn.mk (fun h2 => ?_) (fun h2 => ?_)
    · have h2 : 0 ≤ k := of_decide_eq_true h2
      have F := fin (min (wr (v * wr (k + 1))) (absR d)) (by
        have hk : k ≤ ab d / v := by unfold elN at h; split at h <;> omega
        have m0 : v * k ≤ v * (ab d / v) := Int.mul_le_mul_of_nonneg_left hk (by omega)
        have dd := B.dd
        have r0 := B.r0
        have rv := B.rv
        have mc : v * (ab d / v) = ab d / v * v := Int.mul_comm _ _
        have m1 : 0 ≤ v * k := Int.mul_nonneg (by omega) h2
        have me : v * (k + 1) = v * k + v := by rw [Int.mul_add, Int.mul_one]
        rw [ea, wr_id (n := k + 1) (by omega) (by omega), wr_id (by omega) (by omega)]
        unfold bUp
        rw [if_neg (by omega)]
        split
        · rename_i hf
          have l := bUp_le B k
          rw [bUp, if_neg (by omega), if_pos hf, Int.mul_comm] at l
          rw [Int.mul_comm (k + 1)]
          omega
        · have hk' : k = ab d / v := by omega
          rw [← hk'] at mc
          rw [← hk'] at dd
          omega)
      exact Brn.mk (fun hd => AVle.int (F.1 (of_decide_eq_true hd))) (fun hd => AVle.int (F.2 (of_decide_eq_false hd)))
    · have h2 : ¬ 0 ≤ k := of_decide_eq_false h2
      have F := fin 0 (by rw [bUp, if_pos (by omega)])
      exact Brn.mk (fun hd => AVle.int (F.1 (of_decide_eq_true hd))) (fun hd => AVle.int (F.2 (of_decide_eq_false hd)))
  · trivial
/-- The part of the double sum. -/
def dS (T : Int → Int) (b : Nat) (k : Int) (i j : Nat) : Int := sumN (fun x => bx T b (k - x)) i + sumN (fun y => T (k - i - y)) j
theorem dS_in (T : Int → Int) (b : Nat) (k : Int) (i j : Nat) : dS T b k i (j + 1) = dS T b k i j + T (k - i - j) := by unfold dS; simp only [sumN]; omega
theorem dS_out (T : Int → Int) (b : Nat) (k : Int) (i : Nat) : dS T b k (i + 1) 0 = dS T b k i b := by
  unfold dS
  simp only [sumN]
  have : bx T b (k - i) = sumN (fun y => T (k - i - y)) b := rfl
  omega
theorem sumN_abs {g : Nat → Int} {B : Int} : ∀ {n : Nat}, (∀ i, i < n → -B ≤ g i ∧ g i ≤ B) → -(n * B) ≤ sumN g n ∧ sumN g n ≤ n * B
  | 0, _ => by simp [sumN]
  | n + 1, h => by
    have := sumN_abs (n := n) (fun i hi => h i (by omega))
    have := h n (by omega)
    simp only [sumN]; rw [Int.natCast_add, Int.add_mul]; omega
theorem bx_abs {f : Int → Int} {B : Int} (h : ∀ x, -B ≤ f x ∧ f x ≤ B) (n : Nat) (j : Int) : -(n * B) ≤ bx f n j ∧ bx f n j ≤ n * B := sumN_abs fun _ _ => h _
theorem dS_bd {T : Int → Int} {b i j : Nat} {k : Int} (h : ∀ x, -1099511627776 ≤ T x ∧ T x ≤ 1099511627776) (hb : b ≤ 256) (hi : i ≤ 256) (hj : j ≤ 256) : -144115188075855872 ≤ dS T b k i j ∧ dS T b k i j ≤ 144115188075855872 := by
  have h1 : ∀ x, -281474976710656 ≤ bx T b x ∧ bx T b x ≤ 281474976710656 := fun x => by
    have := bx_abs h b x
    have : (b : Int) * 1099511627776 ≤ 256 * 1099511627776 := Int.mul_le_mul_of_nonneg_right (by omega) (by decide)
    omega
  have h2 := sumN_abs (g := fun x => bx T b (k - x)) (n := i) (fun x _ => h1 (k - x))
  have h3 := sumN_abs (g := fun y => T (k - i - y)) (n := j) (fun y _ => h (k - i - y))
  unfold dS; omega
theorem bx_mul (c : Int) (f : Int → Int) (n : Nat) (j : Int) : bx (fun x => c * f x) n j = c * bx f n j := by
  unfold bx
  induction n with
  | zero => simp [sumN]
  | succ n ih => simp only [sumN]; rw [ih, Int.mul_add]
theorem dS_q (d v a b k : Int) : dS (fun x => sg d * bUp v (ab d / v) (ab d) x) b.toNat (k - 1) a.toNat 0 = qP d v a b k := by
  unfold dS qP pF
  rw [show sumN (fun y => sg d * bUp v (ab d / v) (ab d) (k - 1 - (a.toNat : Int) - y)) 0 = 0 from rfl, Int.add_zero, ← bx_mul]
  refine sumN_congr fun i _ => ?_
  exact bx_mul _ _ _ _
def sPos : Sp
  | [.agg [.int .i64 d, .int .i64 v, .int .i64 a, .int .i64 b], .int .i64 k] => .pre (pOK d v a b ∧ -1125899906842624 ≤ k ∧ k ≤ 1125899906842624) (.int .i64 (qP d v a b k))
  | _ => .no
theorem ok43 : EntOK Try.prog TE 43 sPos := by
  refine ⟨callable_of Try.func43 (by kernel_rfl), fun args => ?_⟩
  unfold sPos
  split
  · rename_i d v a b k
    rintro ⟨hp, k1, k2⟩
    obtain ⟨a1, a2⟩ := hp.2.1
    obtain ⟨b1, b2⟩ := hp.2.2.1
    have TB : ∀ x, -1099511627776 ≤ sg d * bUp v (ab d / v) (ab d) x ∧ sg d * bUp v (ab d / v) (ab d) x ≤ 1099511627776 := fun x => by
      have := hp.ad
      have := sg_abs (d := d) ⟨bUp_nonneg hp.blk x, bUp_le hp.blk x⟩
      omega
    refine fn_ofF tabsOK (specOK_cons ok42 specOK_nil) mixed Try.func43 (by kernel_rfl) ?_
    refine LoopOK.mk ⟨{ i : Nat // i ≤ a.toNat }, fun i => mkSt [(1, .int .i64 k), (2, .loc 2 0), (5, .int .i64 (dS (fun x => sg d * bUp v (ab d / v) (ab d) x) b.toNat (k - 1) i.1 0)), (9, .int .i64 a), (10, .int .i64 i.1)]
      [(2, ⟨23, 4, 1, fun _ j => nth [.int .i64 d, .int .i64 v, .int .i64 a, .int .i64 b] j, 0, true⟩)], fun i => a.toNat - i.1, ⟨⟨0, by omega⟩, ?_⟩, ?_⟩
    · refine wk_of [(2, some 2)] rfl ⟨⟨rfl, rfl⟩, rfl, ⟨rfl, rfl⟩, ⟨rfl, rfl⟩, ⟨rfl, rfl⟩, trivial⟩ ⟨RowLe.fin rfl rfl rfl rfl rfl ?_, trivial⟩
      (repeat' first | exact trivial | exact ⟨by kernel_rfl, by kernel_rfl⟩ | exact Or.inr (by kernel_rfl) | (show _ = _; kernel_rfl) | refine ⟨?_, ?_⟩)
    rintro ⟨i, hi⟩
    have hi : i ≤ a.toNat := hi
    refine Brn.mk (fun h => ?_) (fun h => ?_)
    · have h : (i : Int) < a := of_decide_eq_true h
      refine LoopOK.mk ⟨{ j : Nat // j ≤ b.toNat }, fun j => mkSt [(1, .int .i64 k), (2, .loc 2 0), (5, .int .i64 (dS (fun x => sg d * bUp v (ab d / v) (ab d) x) b.toNat (k - 1) i j.1)), (6, .int .i64 i), (9, .int .i64 a), (10, .int .i64 i), (14, .int .i64 b), (15, .int .i64 j.1)]
        [(2, ⟨23, 4, 1, fun _ j => nth [.int .i64 d, .int .i64 v, .int .i64 a, .int .i64 b] j, 0, true⟩)], fun j => b.toNat - j.1, ⟨⟨0, by omega⟩, ?_⟩, ?_⟩
      · refine wk_of [(2, some 2)] rfl ⟨⟨rfl, rfl⟩, rfl, ⟨rfl, rfl⟩, ⟨rfl, rfl⟩, ⟨rfl, rfl⟩, ⟨rfl, rfl⟩, ⟨rfl, rfl⟩, ⟨rfl, rfl⟩, trivial⟩ ⟨RowLe.fin rfl rfl rfl rfl rfl ?_, trivial⟩
        (repeat' first | exact trivial | exact ⟨by kernel_rfl, by kernel_rfl⟩ | exact Or.inr (by kernel_rfl) | (show _ = _; kernel_rfl) | refine ⟨?_, ?_⟩)
      rintro ⟨j, hj⟩
      have hj : j ≤ b.toNat := hj
      refine Brn.mk (fun h2 => ?_) (fun h2 => ?_)
      · have h2 : (j : Int) < b := of_decide_eq_true h2
        refine Chk.mk hp ?_
        refine ⟨⟨j + 1, by omega⟩, by show b.toNat - (j + 1) < b.toNat - j; omega, ?_⟩
        refine wk_of [(2, some 2)] rfl ⟨⟨rfl, rfl⟩, rfl, ⟨?_, rfl⟩, ⟨rfl, rfl⟩, ⟨rfl, rfl⟩, ⟨rfl, rfl⟩, ⟨rfl, rfl⟩, ⟨wrS (i := j) (by omega), rfl⟩, trivial⟩ ⟨RowLe.fin rfl rfl rfl rfl rfl ?_, trivial⟩
        · refine congrArg (AV.int .i64) ?_
          show wr (dS (fun x => sg d * bUp v (ab d / v) (ab d) x) b.toNat (k - 1) i j + sg d * bUp v (ab d / v) (ab d) (wr (wr (wr (k - 1) - i) - j))) = dS (fun x => sg d * bUp v (ab d / v) (ab d) x) b.toNat (k - 1) i (j + 1)
          have D := dS_bd (T := fun x => sg d * bUp v (ab d / v) (ab d) x) (b := b.toNat) (i := i) (j := j + 1) (k := k - 1) TB (by omega) (by omega) (by omega)
          rw [wr_id (n := k - 1) (by omega) (by omega), wr_id (n := k - 1 - i) (by omega) (by omega), wr_id (n := k - 1 - i - j) (by omega) (by omega), ← dS_in (fun x => sg d * bUp v (ab d / v) (ab d) x), wr_id (by omega) (by omega)]
        (repeat' first | exact trivial | exact ⟨by kernel_rfl, by kernel_rfl⟩ | exact Or.inr (by kernel_rfl) | (show _ = _; kernel_rfl) | refine ⟨?_, ?_⟩)
      · have h2 : ¬ (j : Int) < b := of_decide_eq_false h2
        have : j = b.toNat := by omega
        subst this
        refine ⟨⟨i + 1, by omega⟩, by show a.toNat - (i + 1) < a.toNat - i; omega, ?_⟩
        refine wk_of [(2, some 2)] rfl ⟨⟨rfl, rfl⟩, rfl, ⟨?_, rfl⟩, ⟨rfl, rfl⟩, ⟨wrS (i := i) (by omega), rfl⟩, trivial⟩ ⟨RowLe.fin rfl rfl rfl rfl rfl ?_, trivial⟩
        · exact congrArg (AV.int .i64) (dS_out _ _ _ _).symm
        (repeat' first | exact trivial | exact ⟨by kernel_rfl, by kernel_rfl⟩ | exact Or.inr (by kernel_rfl) | (show _ = _; kernel_rfl) | refine ⟨?_, ?_⟩)
    · have h : ¬ (i : Int) < a := of_decide_eq_false h
      have : i = a.toNat := by omega
      subst this
      exact AVle.int (dS_q d v a b k)
  · trivial
def sRLen : Sp
  | [.agg [.int .i64 d, .int .i64 v, .int .i64 a, .int .i64 b]] => .ok (.tup [.int .i64 (if pOK d v a b then lenP d v a b else 0), .int .i64 (pchk d v a b)])
  | _ => .no
theorem ok20 : EntOK Try.prog TE 20 sRLen := by
  refine ⟨callable_of Try.func20 (by kernel_rfl), fun args => ?_⟩
  unfold sRLen
  split
  · rename_i d v a b
    refine fn_ofF tabsOK (specOK_cons ok12 (specOK_cons ok41 specOK_nil)) mixed Try.func20 (by kernel_rfl) ?_
    refine Brn.mk (fun h => ?_) (fun h => ?_)
    · have h : ¬ pOK d v a b := fun q => ndT h (pchk_ok q)
      exact AVle.tup2 (.int (by rw [if_neg h])) (.int rfl)
    have h : pOK d v a b := pchk0.1 (ndF h)
    refine Brn.mk (fun h0 => ?_) (fun h0 => ?_)
    · have h0 : d = 0 := of_decide_eq_true h0
      subst h0
      exact AVle.tup2 (.int (by rw [if_pos h, len_zero h])) (.int (pchk_ok h).symm)
    · have h0 : ¬ d = 0 := of_decide_eq_false h0
      refine Chk.mk h ?_
      refine AVle.tup2 (.int ?_) (.int (pchk_ok h).symm)
      have e := elN_bd h
      have := h.2
      rw [if_pos h, lenP, if_neg (fun q => h0 ((el_zero h).1 q)), wr_id (n := _ + a) (by omega) (by omega), wr_id (n := _ + b) (by omega) (by omega), wr_id (by omega) (by omega)]
  · trivial
def sRBlk : Sp
  | [.agg [.int .i64 d, .int .i64 v, .int .i64 a, .int .i64 b], .int .i64 k] => .ok (.tup [.int .i64 (ifP d v a b (sg d * bAt v (ab d / v) (ab d % v) k)), .int .i64 (pchk d v a b)])
  | _ => .no
theorem ok21 : EntOK Try.prog TE 21 sRBlk := by
  refine ⟨callable_of Try.func21 (by kernel_rfl), fun args => ?_⟩
  unfold sRBlk
  split
  · rename_i d v a b k
    refine fn_ofF tabsOK (specOK_cons ok12 (specOK_cons ok42 specOK_nil)) mixed Try.func21 (by kernel_rfl) ?_
    refine Brn.mk (fun h => ?_) (fun h => ?_)
    · have h : ¬ pOK d v a b := fun q => ndT h (pchk_ok q)
      exact AVle.tup2 (.int (by rw [ifP_no h])) (.int rfl)
    have h : pOK d v a b := pchk0.1 (ndF h)
    refine Brn.mk (fun h0 => ?_) (fun h0 => ?_)
    · have h0 : k < 0 := of_decide_eq_true h0
      refine AVle.tup2 (.int ?_) (.int (pchk_ok h).symm)
      rw [ifP_ok h, bAt, if_pos (.inl h0), Int.mul_zero]
    have h0 : ¬ k < 0 := of_decide_eq_false h0
    refine Brn.mk (fun h1 => ?_) (fun h1 => ?_)
    · have h1 : 2199023255552 < k := of_decide_eq_true h1
      refine AVle.tup2 (.int ?_) (.int (pchk_ok h).symm)
      have c2 := ediv_le (ab_nonneg d) h.1.1
      have := h.ad
      rw [ifP_ok h, bAt, if_pos (.inr (by omega)), Int.mul_zero]
    · have h1 : ¬ 2199023255552 < k := of_decide_eq_false h1
      refine Chk.mk h (Chk.mk h ?_)
      refine AVle.tup2 (.int ?_) (.int (pchk_ok h).symm)
      have := h.ad
      have u := sg_abs (d := d) ⟨bUp_nonneg h.blk k, bUp_le h.blk k⟩
      have u' := sg_abs (d := d) ⟨bUp_nonneg h.blk (k - 1), bUp_le h.blk (k - 1)⟩
      rw [ifP_ok h, wr_id (n := k - 1) (by omega) (by omega), wr_id (by omega) (by omega), ← bUp_at h.blk, Int.mul_sub]
  · trivial
theorem j_step {d v a b : Int} (h : pOK d v a b) (k : Int) : qP d v a b k - 3 * qP d v a b (k - 1) + 3 * qP d v a b (k - 2) - qP d v a b (k - 3) = jP d v a b k := by
  have h1 := q_step h k
  have h2 := q_step h (k - 1)
  have h3 := q_step h (k - 2)
  rw [show k - 1 - 1 = k - 2 by omega] at h2
  rw [show k - 2 - 1 = k - 3 by omega] at h3
  unfold jP; omega
theorem a_step {d v a b : Int} (h : pOK d v a b) (k : Int) : qP d v a b k - 2 * qP d v a b (k - 1) + qP d v a b (k - 2) = aP d v a b k := by
  have h1 := q_step h k
  have h2 := q_step h (k - 1)
  rw [show k - 1 - 1 = k - 2 by omega] at h2
  unfold aP; omega
def sRAt : Sp
  | [.agg [.int .i64 d, .int .i64 v, .int .i64 a, .int .i64 b], .int .i64 k] => .ok (.tup [.agg [.int .i64 (ifP d v a b (qP d v a b (kP d v a b k))), .int .i64 (ifP d v a b (vP d v a b (kP d v a b k))), .int .i64 (ifP d v a b (aP d v a b (kP d v a b k))), .int .i64 (ifP d v a b (jP d v a b (kP d v a b k)))], .int .i64 (pchk d v a b)])
  | _ => .no
set_option maxHeartbeats 1000000 in
theorem ok22 : EntOK Try.prog TE 22 sRAt := by
  refine ⟨callable_of Try.func22 (by kernel_rfl), fun args => ?_⟩
  unfold sRAt
  split
  · rename_i d v a b k
    refine fn_ofF tabsOK (specOK_cons ok16 (specOK_cons ok20 (specOK_cons ok43 specOK_nil))) mixed Try.func22 (by kernel_rfl) ?_
    refine Brn.mk (fun h => ?_) (fun h => ?_)
    · have h : ¬ pOK d v a b := fun q => ndT h (pchk_ok q)
      exact AVle.tup2 (.agg (by simp only [ifP_no h])) (.int rfl)
    have h : pOK d v a b := pchk0.1 (ndF h)
    have kb := kP_bd h k
    have ek : clip k 0 (if pOK d v a b then lenP d v a b else 0) = kP d v a b k := by rw [len_ok h]; rfl
    have w1 : wr (kP d v a b k - 1) = kP d v a b k - 1 := wr_id (by omega) (by omega)
    have w2 : wr (kP d v a b k - 2) = kP d v a b k - 2 := wr_id (by omega) (by omega)
    have w3 : wr (kP d v a b k - 3) = kP d v a b k - 3 := wr_id (by omega) (by omega)
    refine Chk.mk ⟨h, by rw [ek]; omega, by rw [ek]; omega⟩ (Chk.mk ⟨h, by rw [ek]; omega, by rw [ek]; omega⟩ (Chk.mk ⟨h, by rw [ek]; omega, by rw [ek]; omega⟩ (Chk.mk ⟨h, by rw [ek]; omega, by rw [ek]; omega⟩ ?_)))
    have a0 := a_step h (kP d v a b k)
    have j0 := j_step h (kP d v a b k)
    have v0 := q_step h (kP d v a b k)
    refine Brn.mk (fun h0 => ?_) (fun h0 => ?_)
    · have h0 : kP d v a b k = 0 := by rw [← ek]; exact of_decide_eq_true h0
      refine AVle.tup2 (.agg ?_) (.int (pchk_ok h).symm)
      simp only [ifP_ok h, h0, aP, jP]
      rw [qP_zero (by omega), vP_zero (by omega), vP_zero (k := 0 - 1) (by omega), vP_zero (k := 0 - 2) (by omega)]
      rfl
    · refine AVle.tup2 (.agg ?_) (.int (pchk_ok h).symm)
      have b0 := qP_bd h (kP d v a b k)
      have b1 := qP_bd h (kP d v a b k - 1)
      have b2 := qP_bd h (kP d v a b k - 2)
      have b3 := qP_bd h (kP d v a b k - 3)
      show [AV.int .i64 (qP d v a b (clip k 0 (if pOK d v a b then lenP d v a b else 0))), .int .i64 (wr (qP d v a b (clip k 0 (if pOK d v a b then lenP d v a b else 0)) - qP d v a b (wr (clip k 0 (if pOK d v a b then lenP d v a b else 0) - 1)))),
        .int .i64 (wr (wr (qP d v a b (clip k 0 (if pOK d v a b then lenP d v a b else 0)) - wr (2 * qP d v a b (wr (clip k 0 (if pOK d v a b then lenP d v a b else 0) - 1)))) + qP d v a b (wr (clip k 0 (if pOK d v a b then lenP d v a b else 0) - 2)))),
        .int .i64 (wr (wr (wr (qP d v a b (clip k 0 (if pOK d v a b then lenP d v a b else 0)) - wr (3 * qP d v a b (wr (clip k 0 (if pOK d v a b then lenP d v a b else 0) - 1)))) + wr (3 * qP d v a b (wr (clip k 0 (if pOK d v a b then lenP d v a b else 0) - 2)))) - qP d v a b (wr (clip k 0 (if pOK d v a b then lenP d v a b else 0) - 3))))] = _
      simp only [ifP_ok h, ek, w1, w2, w3]
      rw [wr_id (n := qP d v a b (kP d v a b k) - qP d v a b (kP d v a b k - 1)) (by omega) (by omega), wr_id (n := 2 * _) (by omega) (by omega), wr_id (n := 3 * qP d v a b (kP d v a b k - 1)) (by omega) (by omega), wr_id (n := 3 * qP d v a b (kP d v a b k - 2)) (by omega) (by omega),
        wr_id (n := qP d v a b (kP d v a b k) - 2 * _) (by omega) (by omega), wr_id (n := qP d v a b (kP d v a b k) - 3 * _) (by omega) (by omega), wr_id (n := qP d v a b (kP d v a b k) - 2 * _ + _) (by omega) (by omega), wr_id (n := qP d v a b (kP d v a b k) - 3 * _ + _) (by omega) (by omega), wr_id (n := qP d v a b (kP d v a b k) - 3 * _ + _ - _) (by omega) (by omega), a0, j0, v0]
  · trivial
def sRLim : Sp
  | [.agg [.int .i64 d, .int .i64 v, .int .i64 a, .int .i64 b]] => .ok (.tup [.agg [.int .i64 (ifP d v a b (ab d * (a * b))), .int .i64 (ifP d v a b (v * (a * b))), .int .i64 (ifP d v a b (v * min a b)), .int .i64 (ifP d v a b (2 * v))], .int .i64 (pchk d v a b)])
  | _ => .no
theorem ok23 : EntOK Try.prog TE 23 sRLim := by
  refine ⟨callable_of Try.func23 (by kernel_rfl), fun args => ?_⟩
  unfold sRLim
  split
  · rename_i d v a b
    refine fn_ofF tabsOK (specOK_cons ok12 (specOK_cons ok33 specOK_nil)) mixed Try.func23 (by kernel_rfl) ?_
    refine Brn.mk (fun h => ?_) (fun h => ?_)
    · have h : ¬ pOK d v a b := fun q => ndT h (pchk_ok q)
      exact AVle.tup2 (.agg (by simp only [ifP_no h])) (.int rfl)
    have h : pOK d v a b := pchk0.1 (ndF h)
    have ea := absR_ab h.2.2.2
    try refine Chk.mk (by kernel_rfl) ?_
    refine AVle.tup2 (.agg ?_) (.int (pchk_ok h).symm)
    simp only [ifP_ok h]
    have d1 := h.ad
    have d0 := ab_nonneg d
    obtain ⟨q1, q2, q3⟩ := lim_bd h
    obtain ⟨⟨v1, v2⟩, ⟨a1, a2⟩, ⟨b1, b2⟩, _⟩ := h
    have n0 : 0 ≤ ab d * a := Int.mul_nonneg d0 (by omega)
    have n1 : ab d * a ≤ 1099511627776 * 256 := Int.mul_le_mul d1 a2 (by omega) (by decide)
    have m0 : 0 ≤ v * a := Int.mul_nonneg (by omega) (by omega)
    have m1 : v * a ≤ 16777216 * 256 := Int.mul_le_mul v2 a2 (by omega) (by decide)
    have r0 : 0 ≤ v * min a b := Int.mul_nonneg (by omega) (by omega)
    have s0 : 0 ≤ ab d * a * b := Int.mul_nonneg n0 (by omega)
    have s1 : 0 ≤ v * a * b := Int.mul_nonneg m0 (by omega)
    rw [← Int.mul_assoc] at q1 q2
    show [AV.int .i64 (wr (wr (absR d * a) * b)), .int .i64 (wr (wr (v * a) * b)), .int .i64 (wr (v * min a b)), .int .i64 (wr (2 * v))] = _
    rw [ea, wr_id (n := ab d * a) (by omega) (by omega), wr_id (n := ab d * a * b) (by omega) (by omega), wr_id (n := v * a) (by omega) (by omega), wr_id (n := v * a * b) (by omega) (by omega), wr_id (n := v * min a b) (by omega) (by omega), wr_id (n := 2 * v) (by omega) (by omega), Int.mul_assoc, Int.mul_assoc]
  · trivial
end
end Go.Proofs.Ytpndkmppncpkgaa.Img
