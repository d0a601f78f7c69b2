/- Chapter 37: the point after k ticks, the limits, the block. Conditions: none. -/
import Derived.Test.YtpndkmppncpkgaaPrf3
namespace Go.Proofs.Ytpndkmppncpkgaa.Img
open Go Go.Proofs.Ytpndkmppncpkgaa.AI Go.Proofs
noncomputable section
set_option maxRecDepth 100000
theorem blk39 {d v f r : Int} : blkF 39 d v f r = bAt v f r := if_pos rfl
theorem blk40 {d v f r : Int} : blkF 40 d v f r = bUp v f d := if_neg (by decide)
theorem wS_toNat {A B : Int} (hA : 1 ≤ A) (hB : 1 ≤ B) (f : Int → Int) (l : Int) : wS A B f l (A + B - 1).toNat = bx (bx f B.toNat) A.toNat l := by
  obtain ⟨a, rfl⟩ : ∃ n : Nat, A = n := ⟨A.toNat, by omega⟩
  obtain ⟨b, rfl⟩ : ∃ n : Nat, B = n := ⟨B.toNat, by omega⟩
  rw [Int.toNat_natCast, Int.toNat_natCast, show ((a : Int) + b - 1).toNat = a + b - 1 by omega]
  exact wS_eq f l (by omega) (by omega)
structure VOK (m1 m2 m3 : Nat) (g1 g2 g3 : Nat → AV) (k : Int) : Prop where
  m1 : m1 = 1
  m2 : m2 = 4
  m3 : m3 = 4
  c1 : AllLt 1 fun j => g1 j = .int .i64 (asI (g1 j))
  c2 : AllLt 4 fun j => g2 j = .int .i64 (asI (g2 j))
  c3 : AllLt 4 fun j => g3 j = .int .i64 (asI (g3 j))
  s : asI (g1 0) = 1 ∨ asI (g1 0) = -1
  p : pOK (asI (g2 0)) (asI (g2 1)) (asI (g2 2)) (asI (g2 3))
  B : Blk (asI (g3 0)) (asI (g3 1)) (asI (g3 2)) (asI (g3 3))
  d : asI (g3 0) ≤ 1099511627776
  v : asI (g3 1) ≤ 16777216
  k : k ≤ 1125899906842624
def velR (s a b v f r k : Int) : Int := s * vF a.toNat b.toNat v f r k
def sVel : Sp
  | [.int .i64 k, .iref m1 g1, .iref m2 g2, .iref m3 g3] => .pre (VOK m1 m2 m3 g1 g2 g3 k) (.int .i64 (velR (asI (g1 0)) (asI (g2 2)) (asI (g2 3)) (asI (g3 1)) (asI (g3 2)) (asI (g3 3)) k))
  | _ => .no
theorem toNat_bd {a : Int} (h : 1 ≤ a ∧ a ≤ 256) : ((a.toNat : Nat) : Int) = a := by omega
theorem vF_bd {d v f r a b : Int} (B : Blk d v f r) (ha : 1 ≤ a ∧ a ≤ 256) (hb : 1 ≤ b ∧ b ≤ 256) (hv : v ≤ 16777216) (k : Int) : 0 ≤ vF a.toNat b.toNat v f r k ∧ vF a.toNat b.toNat v f r k ≤ 1099511627776 := by
  refine ⟨vF_nonneg B _ _ _, Int.le_trans (vF_le B _ _ _) ?_⟩
  rw [toNat_bd ha, toNat_bd hb]
  have v1 := B.v1
  have h1 : b * v ≤ 256 * 16777216 := Int.mul_le_mul hb.2 hv (by omega) (by decide)
  have h0 : 0 ≤ b * v := Int.mul_nonneg (by omega) (by omega)
  have h2 : a * (b * v) ≤ 256 * (256 * 16777216) := Int.mul_le_mul ha.2 h1 h0 (by decide)
  omega
theorem pF_bd {d v f r a b : Int} (B : Blk d v f r) (ha : 1 ≤ a ∧ a ≤ 256) (hb : 1 ≤ b ∧ b ≤ 256) (hd : d ≤ 1099511627776) (k : Int) : 0 ≤ pF a.toNat b.toNat v f d k ∧ pF a.toNat b.toNat v f d k ≤ 72057594037927936 := by
  refine ⟨pF_nonneg B _ _ _, Int.le_trans (pF_le B _ _ _) ?_⟩
  rw [toNat_bd ha, toNat_bd hb]
  have d0 : 0 ≤ d := by have := B.dd; have := B.r0; have := Int.mul_nonneg B.f0 (show 0 ≤ v by have := B.v1; omega); omega
  have h1 : b * d ≤ 256 * 1099511627776 := Int.mul_le_mul hb.2 hd d0 (by decide)
  have h0 : 0 ≤ b * d := Int.mul_nonneg (by omega) d0
  have h2 : a * (b * d) ≤ 256 * (256 * 1099511627776) := Int.mul_le_mul ha.2 h1 h0 (by decide)
  omega
theorem sg_mul {s x m : Int} (hs : s = 1 ∨ s = -1) (h : 0 ≤ x ∧ x ≤ m) : -m ≤ s * x ∧ s * x ≤ m := by
  rcases hs with rfl | rfl <;> omega
theorem ok37 : EntOK Try.prog TE 37 sVel := by
  refine ⟨callable_of Try.func37 (by kernel_rfl), fun args => ?_⟩
  unfold sVel
  split
  · rename_i k m1 g1 m2 g2 m3 g3
    rintro ⟨rfl, rfl, rfl, c1, c2, c3, hs, hp, B, hd, hv, hk⟩
    refine FnOK.args ?_ (m := [.int .i64 k, .iref 1 (nth [.int .i64 (asI (g1 0))]), .iref 4 (nth [.int .i64 (asI (g2 0)), .int .i64 (asI (g2 1)), .int .i64 (asI (g2 2)), .int .i64 (asI (g2 3))]), .iref 4 (nth [.int .i64 (asI (g3 0)), .int .i64 (asI (g3 1)), .int .i64 (asI (g3 2)), .int .i64 (asI (g3 3))])]) ⟨fun _ _ _ h => h, .iref (by omega) fun j hj => .of_eq ?_, .iref (by omega) fun j hj => .of_eq ?_, .iref (by omega) fun j hj => .of_eq ?_, trivial⟩
    · generalize asI (g1 0) = s at *
      generalize asI (g2 0) = D at *
      generalize asI (g2 1) = V at *
      generalize asI (g2 2) = a at *
      generalize asI (g2 3) = b at *
      generalize asI (g3 0) = d at *
      generalize asI (g3 1) = v at *
      generalize asI (g3 2) = f at *
      generalize asI (g3 3) = r at *
      obtain ⟨⟨v1, v2⟩, ⟨a1, a2⟩, ⟨b1, b2⟩, d1, d2⟩ := hp
      refine fn_ofF tabsOK (specOK_cons ok38 specOK_nil) mixed Try.func37 (by kernel_rfl) ?_
      refine Brn.mk (fun h => AVle.int ?_) (fun h => ?_)
      · rw [velR, vF_zero _ _ (of_decide_eq_true h), Int.mul_zero]
      · have h := of_decide_eq_false h
        have e : wr (k - 1) = k - 1 := wr_id (by omega) (by omega)
        refine Chk.mk ⟨.inl rfl, ⟨a1, a2⟩, ⟨b1, b2⟩, by rw [e]; omega, B, hd, by omega⟩ (AVle.int ?_)
        rw [e, blk39, wS_toNat a1 b1]
        have l := sg_mul hs (vF_bd B ⟨a1, a2⟩ ⟨b1, b2⟩ hv k)
        exact wr_id (n := s * vF a.toNat b.toNat v f r k) (by omega) (by omega)
    · have : j = 0 := by omega
      subst this; exact allLt c1 0 (by omega)
    · rw [allLt c2 j hj]
      match j, hj with
      | 0, _ => rfl
      | 1, _ => rfl
      | 2, _ => rfl
      | 3, _ => rfl
    · rw [allLt c3 j hj]
      match j, hj with
      | 0, _ => rfl
      | 1, _ => rfl
      | 2, _ => rfl
      | 3, _ => rfl
  · trivial
/-- The tick that is meant. -/
def kP (d v a b k : Int) : Int := clip k 0 (lenP d v a b)
def vP (d v a b k : Int) : Int := velR (sg d) a b v (ab d / v) (ab d % v) k
def qP (d v a b k : Int) : Int := sg d * pF a.toNat b.toNat v (ab d / v) (ab d) k
def ifP (d v a b x : Int) : Int := if pOK d v a b then x else 0
theorem ifP_ok {d v a b x : Int} (h : pOK d v a b) : ifP d v a b x = x := if_pos h
theorem ifP_no {d v a b x : Int} (h : ¬ pOK d v a b) : ifP d v a b x = 0 := if_neg h
def aP (d v a b k : Int) : Int := vP d v a b k - vP d v a b (k - 1)
def jP (d v a b k : Int) : Int := vP d v a b k - 2 * vP d v a b (k - 1) + vP d v a b (k - 2)
def sPAt : Sp
  | [.agg [.int .i64 d, .int .i64 v, .int .i64 a, .int .i64 b], .int .i64 k] => .ok (.tup [.agg [.int .i64 (ifP d v a b (qP d v a b (kP d v a b k))), .int .i64 (ifP d v a b (vP d v a b (kP d v a b k))), .int .i64 (ifP d v a b (aP d v a b (kP d v a b k))), .int .i64 (ifP d v a b (jP d v a b (kP d v a b k)))], .err (pchk d v a b)])
  | _ => .no
theorem sg_cases (d : Int) : sg d = 1 ∨ sg d = -1 := by unfold sg; split <;> simp
theorem pOK.blk {d v a b : Int} (h : pOK d v a b) : Blk (ab d) v (ab d / v) (ab d % v) := Blk.of (ab_nonneg d) h.1.1
theorem pOK.ad {d v a b : Int} (h : pOK d v a b) : ab d ≤ 1099511627776 := ab_le h.2.2.2
theorem elN_bd {d v a b : Int} (h : pOK d v a b) : 0 ≤ elN (ab d / v) (ab d % v) ∧ elN (ab d / v) (ab d % v) ≤ 1099511627777 := by
  have c0 := ab_nonneg d
  have c1 := h.ad
  have c2 := ediv_le c0 h.1.1
  have c3 := h.blk.f0
  unfold elN; split <;> omega
theorem lenP_bd {d v a b : Int} (h : pOK d v a b) : 0 ≤ lenP d v a b ∧ lenP d v a b ≤ 1099511628800 := by
  obtain ⟨h1, h2⟩ := elN_bd h
  obtain ⟨_, ⟨a1, a2⟩, ⟨b1, b2⟩, _⟩ := h
  unfold lenP; split <;> omega
theorem kP_bd {d v a b : Int} (h : pOK d v a b) (k : Int) : 0 ≤ kP d v a b k ∧ kP d v a b k ≤ 1099511628800 := by
  have := lenP_bd h
  unfold kP clip; omega
theorem vP_bd {d v a b : Int} (h : pOK d v a b) (k : Int) : -1099511627776 ≤ vP d v a b k ∧ vP d v a b k ≤ 1099511627776 := sg_mul (sg_cases d) (vF_bd h.blk h.2.1 h.2.2.1 h.1.2 k)
theorem qP_bd {d v a b : Int} (h : pOK d v a b) (k : Int) : -72057594037927936 ≤ qP d v a b k ∧ qP d v a b k ≤ 72057594037927936 := sg_mul (sg_cases d) (pF_bd h.blk h.2.1 h.2.2.1 h.ad k)
theorem vP_zero {d v a b k : Int} (h : k ≤ 0) : vP d v a b k = 0 := by rw [vP, velR, vF_zero _ _ h, Int.mul_zero]
theorem qP_zero {d v a b k : Int} (h : k ≤ 0) : qP d v a b k = 0 := by rw [qP, pF_zero _ _ h, Int.mul_zero]
theorem asI_v {g : AV} {n : Int} (h : g = .int .i64 n) : asI g = n := by rw [h]; rfl
theorem asI_eq {g : AV} {n : Int} (h : g = .int .i64 n) : g = .int .i64 (asI g) := by rw [asI_v h]; exact h
theorem vok {m1 m2 m3 : Nat} {g1 g2 g3 : Nat → AV} {d v a b k : Int} (h1 : m1 = 1) (h2 : m2 = 4) (h3 : m3 = 4) (x : g1 0 = .int .i64 (sg d)) (y0 : g2 0 = .int .i64 d) (y1 : g2 1 = .int .i64 v) (y2 : g2 2 = .int .i64 a) (y3 : g2 3 = .int .i64 b)
    (z0 : g3 0 = .int .i64 (ab d)) (z1 : g3 1 = .int .i64 v) (z2 : g3 2 = .int .i64 (ab d / v)) (z3 : g3 3 = .int .i64 (ab d % v)) (h : pOK d v a b) (hk : k ≤ 1125899906842624) : VOK m1 m2 m3 g1 g2 g3 k := by
  refine ⟨h1, h2, h3, ⟨trivial, asI_eq x⟩, ⟨⟨⟨⟨trivial, asI_eq y0⟩, asI_eq y1⟩, asI_eq y2⟩, asI_eq y3⟩, ⟨⟨⟨⟨trivial, asI_eq z0⟩, asI_eq z1⟩, asI_eq z2⟩, asI_eq z3⟩, ?_, ?_, ?_, ?_, ?_, hk⟩
  · rw [asI_v x]; exact sg_cases d
  · rw [asI_v y0, asI_v y1, asI_v y2, asI_v y3]; exact h
  · rw [asI_v z0, asI_v z1, asI_v z2, asI_v z3]; exact h.blk
  · rw [asI_v z0]; exact h.ad
  · rw [asI_v z1]; exact h.1.2
set_option maxHeartbeats 1000000 in
theorem ok15 : EntOK Try.prog TE 15 sPAt := by
  refine ⟨callable_of Try.func15 (by kernel_rfl), fun args => ?_⟩
  unfold sPAt
  split
  · rename_i d v a b k
    refine fn_ofF tabsOK (specOK_cons ok25 (specOK_cons ok34 (specOK_cons ok35 (specOK_cons ok36 (specOK_cons ok37 (specOK_cons ok38 specOK_nil)))))) mixed Try.func15 (by kernel_rfl) ?_
    refine Brn.mk (fun h => ?_) (fun h => ?_)
    · have h : ¬ pOK d v a b := fun q => ndT h (pchk_ok q)
      exact AVle.tup2 (.agg (by simp only [ifP_no h])) (.err rfl)
    have h : pOK d v a b := pchk0.1 (ndF h)
    refine Chk.mk h ?_
    refine Chk.mk h ?_
    have kb := kP_bd h k
    have e0 : clip k 0 (lenP d v a b) = kP d v a b k := rfl
    have e1 : wr (kP d v a b k - 1) = kP d v a b k - 1 := wr_id (by omega) (by omega)
    have e2 : wr (kP d v a b k - 2) = kP d v a b k - 2 := wr_id (by omega) (by omega)
    have B0 := vP_bd h (kP d v a b k)
    have B1 := vP_bd h (kP d v a b k - 1)
    have B2 := vP_bd h (kP d v a b k - 2)
    have Q0 := qP_bd h (kP d v a b k)
    refine Chk.mk (vok rfl rfl rfl rfl rfl rfl rfl rfl rfl rfl rfl rfl h (show kP d v a b k ≤ 1125899906842624 by omega)) ?_
    refine Chk.mk (vok rfl rfl rfl rfl rfl rfl rfl rfl rfl rfl rfl rfl h (show wr (kP d v a b k - 1) ≤ 1125899906842624 by omega)) ?_
    refine Chk.mk (vok rfl rfl rfl rfl rfl rfl rfl rfl rfl rfl rfl rfl h (show wr (kP d v a b k - 2) ≤ 1125899906842624 by omega)) ?_
    have n2 : wr (2 * vP d v a b (kP d v a b k - 1)) = 2 * vP d v a b (kP d v a b k - 1) := wr_id (by omega) (by omega)
    refine Brn.mk (fun h0 => ?_) (fun h0 => ?_)
    · have h0 : 0 < kP d v a b k := of_decide_eq_true h0
      refine Chk.mk ⟨.inr rfl, h.2.1, h.2.2.1, (show -4611686018427387904 ≤ wr (kP d v a b k - 1) ∧ wr (kP d v a b k - 1) ≤ 4611686018427387904 by omega), h.blk, h.ad, by have := h.1.2; omega⟩ ?_
      refine Chk.mk (by kernel_rfl) ?_
      refine AVle.tup2 (.agg ?_) (.nilErr (pchk_ok h))
      simp only [ifP_ok h]
      show [AV.int .i64 (wr (sg d * wS a b (blkF 40 (ab d) v (ab d / v) (ab d % v)) (wr (kP d v a b k - 1)) (a + b - 1).toNat)), .int .i64 (vP d v a b (kP d v a b k)), .int .i64 (wr (vP d v a b (kP d v a b k) - vP d v a b (wr (kP d v a b k - 1)))),
        .int .i64 (wr (wr (vP d v a b (kP d v a b k) - wr (2 * vP d v a b (wr (kP d v a b k - 1)))) + vP d v a b (wr (kP d v a b k - 2))))] = _
      have eq : sg d * wS a b (blkF 40 (ab d) v (ab d / v) (ab d % v)) (kP d v a b k - 1) (a + b - 1).toNat = qP d v a b (kP d v a b k) := by
        rw [blk40, wS_toNat h.2.1.1 h.2.2.1.1]; rfl
      rw [e1, e2, eq, n2, wr_id (n := qP d v a b (kP d v a b k)) (by omega) (by omega), wr_id (n := vP d v a b (kP d v a b k) - vP d v a b (kP d v a b k - 1)) (by omega) (by omega), wr_id (n := vP d v a b (kP d v a b k) - 2 * _) (by omega) (by omega), wr_id (by omega) (by omega)]
      rfl
    · have h0 : ¬ 0 < kP d v a b k := of_decide_eq_false h0
      have hk : kP d v a b k = 0 := by omega
      refine AVle.tup2 (.agg ?_) (.nilErr (pchk_ok h))
      simp only [ifP_ok h, hk, aP, jP]
      rw [qP_zero (by omega), vP_zero (by omega), vP_zero (k := 0 - 1) (by omega), vP_zero (k := 0 - 2) (by omega)]
      rfl
  · trivial
def limM (d v a b : Int) : Int := ifP d v a b (v * min a b)
def sLim : Sp
  | [.agg [.int .i64 d, .int .i64 v, .int .i64 a, .int .i64 b]] => .ok (.tup [.agg [.int .i64 (ifP d v a b (ab d * (a * b))), .int .i64 (ifP d v a b (v * (a * b))), .int .i64 (ifP d v a b (v * min a b)), .int .i64 (ifP d v a b (2 * v))], .err (pchk d v a b)])
  | _ => .no
theorem ok17 : EntOK Try.prog TE 17 sLim := by
  refine ⟨callable_of Try.func17 (by kernel_rfl), fun args => ?_⟩
  unfold sLim
  split
  · rename_i d v a b
    refine fn_ofF tabsOK (specOK_cons ok25 (specOK_cons ok36 specOK_nil)) mixed Try.func17 (by kernel_rfl) ?_
    refine Brn.mk (fun h => ?_) (fun h => ?_)
    · have h : ¬ pOK d v a b := fun q => ndT h (pchk_ok q)
      exact AVle.tup2 (.agg (by simp only [ifP_no h])) (.err rfl)
    have h : pOK d v a b := pchk0.1 (ndF h)
    refine Chk.mk h ?_
    try refine Chk.mk (by kernel_rfl) ?_
    refine AVle.tup2 (.agg ?_) (.nilErr (pchk_ok h))
    simp only [ifP_ok h]
    have d1 := h.ad
    have d0 := ab_nonneg d
    obtain ⟨⟨v1, v2⟩, ⟨a1, a2⟩, ⟨b1, b2⟩, _⟩ := h
    have m1 : a * b ≤ 256 * 256 := Int.mul_le_mul a2 b2 (by omega) (by decide)
    have m0 : 0 ≤ a * b := Int.mul_nonneg (by omega) (by omega)
    have n1 : ab d * (a * b) ≤ 1099511627776 * 65536 := Int.mul_le_mul d1 m1 m0 (by decide)
    have n0 : 0 ≤ ab d * (a * b) := Int.mul_nonneg d0 m0
    have p1 : v * (a * b) ≤ 16777216 * 65536 := Int.mul_le_mul v2 m1 m0 (by decide)
    have p0 : 0 ≤ v * (a * b) := Int.mul_nonneg (by omega) m0
    have q1 : v * min a b ≤ 16777216 * 256 := Int.mul_le_mul v2 (by omega) (by omega) (by decide)
    have q0 : 0 ≤ v * min a b := Int.mul_nonneg (by omega) (by omega)
    show [AV.int .i64 (wr (ab d * wr (a * b))), .int .i64 (wr (v * wr (a * b))), .int .i64 (wr (v * min a b)), .int .i64 (wr (2 * v))] = _
    rw [wr_id (n := a * b) (by omega) (by omega), wr_id (n := ab d * _) (by omega) (by omega), wr_id (n := v * (a * b)) (by omega) (by omega), wr_id (n := v * min a b) (by omega) (by omega), wr_id (n := 2 * v) (by omega) (by omega)]
  · trivial
def sBlock : Sp
  | [.agg [.int .i64 d, .int .i64 v, .int .i64 a, .int .i64 b], .int .i64 k] => .ok (.tup [.int .i64 (ifP d v a b (sg d * bAt v (ab d / v) (ab d % v) k)), .err (pchk d v a b)])
  | _ => .no
theorem ok19 : EntOK Try.prog TE 19 sBlock := by
  refine ⟨callable_of Try.func19 (by kernel_rfl), fun args => ?_⟩
  unfold sBlock
  split
  · rename_i d v a b k
    refine fn_ofF tabsOK (specOK_cons ok25 (specOK_cons ok36 (specOK_cons ok39 specOK_nil))) mixed Try.func19 (by kernel_rfl) ?_
    refine Brn.mk (fun h => ?_) (fun h => ?_)
    · have h : ¬ pOK d v a b := fun q => ndT h (pchk_ok q)
      exact AVle.tup2 (.int (by rw [ifP_no h])) (.err rfl)
    have h : pOK d v a b := pchk0.1 (ndF h)
    refine Chk.mk h ?_
    refine AVle.tup2 (.int ?_) (.nilErr (pchk_ok h))
    rw [ifP_ok h]
    have l := sg_mul (m := v) (sg_cases d) ⟨bAt_nonneg h.blk k, bAt_le h.blk k⟩
    have := h.1
    exact wr_id (by omega) (by omega)
  · trivial
def sAwake : Sp
  | [] => .okb true
  | _ => .no
set_option maxHeartbeats 1000000 in
theorem ok13 : EntOK Try.prog TE 13 sAwake := by
  refine ⟨callable_of Try.func13 (by kernel_rfl), fun args => ?_⟩
  unfold sAwake
  split
  · refine fn_ofF tabsOK (specOK_cons ok14 (specOK_cons ok15 specOK_nil)) mixed Try.func13 (by kernel_rfl) ?_
    repeat first
      | refine Brn.mk (fun h => absurd h (by decide +kernel)) (fun _ => ?_)
      | refine Brn.mk (fun _ => ?_) (fun h => absurd h (by decide +kernel))
    exact AVle.bit (by decide +kernel)
  · trivial
end
end Go.Proofs.Ytpndkmppncpkgaa.Img
