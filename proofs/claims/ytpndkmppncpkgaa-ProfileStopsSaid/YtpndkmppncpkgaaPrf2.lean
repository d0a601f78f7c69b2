/- Chapter 37: the block, the weighted sum. Conditions: none. -/
import Derived.Test.YtpndkmppncpkgaaPrf1
namespace Go.Proofs.Ytpndkmppncpkgaa.Img
open Go Go.Proofs.Ytpndkmppncpkgaa.AI Go.Proofs
noncomputable section
set_option maxRecDepth 100000
def sFew : Sp
  | [.agg [.int .i64 d, .int .i64 v, .int .i64 a, .int .i64 b]] => .ok (.bit (decide (a ≤ 24 ∧ b ≤ 24 ∨ ¬ pOK d v a b)))
  | _ => .no
theorem ok11 : EntOK Try.prog TE 11 sFew := by
  refine ⟨callable_of Try.func11 (by kernel_rfl), fun args => ?_⟩
  unfold sFew
  split
  · rename_i d v a b
    refine fn_ofF tabsOK (specOK_cons ok12 specOK_nil) mixed Try.func11 (by kernel_rfl) ?_
    have key : ∀ c : Bool, c = (!decide (pchk d v a b = 0)) → (c = true ↔ ¬ pOK d v a b) := fun c hc => by
      rw [hc, ← pchk0 (d := d)]; simp
    refine Brn.mk (fun h1 => ?_) (fun h1 => ?_)
    · refine Brn.mk (fun h2 => ?_) (fun h2 => ?_)
      · exact AVle.bit (decide_eq_true (.inl ⟨of_decide_eq_true h1, of_decide_eq_true h2⟩)).symm
      · refine AVle.bit ?_
        have h2 := of_decide_eq_false h2
        rw [Bool.eq_iff_iff, key _ rfl, decide_eq_true_eq]
        exact ⟨.inr, fun h => by rcases h with h | h; exact absurd h.2 h2; exact h⟩
    · refine AVle.bit ?_
      have h1 := of_decide_eq_false h1
      rw [Bool.eq_iff_iff, key _ rfl, decide_eq_true_eq]
      exact ⟨.inr, fun h => by rcases h with h | h; exact absurd h.1 h1; exact h⟩
  · trivial
def sSize : Sp
  | [.int .i64 n, .int .i64 m] => .pre (0 ≤ m ∧ m ≤ 4611686018427387904) (.bit (decide (n ≤ m ∧ -m ≤ n)))
  | _ => .no
theorem ok18 : EntOK Try.prog TE 18 sSize := by
  refine ⟨callable_of Try.func18 (by kernel_rfl), fun args => ?_⟩
  unfold sSize
  split
  · rename_i n m
    intro hp
    refine fn_ofF tabsOK specOK_nil mixed Try.func18 (by kernel_rfl) ?_
    have e : wr (0 - m) = -m := by rw [wr_id (by omega) (by omega)]; omega
    refine Brn.mk (fun h1 => ?_) (fun h1 => ?_)
    · refine AVle.bit ?_
      rw [e, Bool.eq_iff_iff, decide_eq_true_eq, decide_eq_true_eq]
      exact ⟨fun h => ⟨of_decide_eq_true h1, h⟩, fun h => h.2⟩
    · exact AVle.bit (decide_eq_false fun h => of_decide_eq_false h1 h.1).symm
  · trivial
def ab (d : Int) : Int := if d < 0 then -d else d
def sg (d : Int) : Int := if d < 0 then -1 else 1
theorem ab_nonneg (d : Int) : 0 ≤ ab d := by unfold ab; split <;> omega
theorem ab_le {d m : Int} (h : -m ≤ d ∧ d ≤ m) : ab d ≤ m := by unfold ab; split <;> omega
theorem ediv_le {d v : Int} (hd : 0 ≤ d) (hv : 1 ≤ v) : d / v ≤ d := by
  have := (Blk.of hd hv).dd
  have h0 := (Blk.of hd hv).r0
  have h1 := (Blk.of hd hv).f0
  have : (d / v) * 1 ≤ (d / v) * v := Int.mul_le_mul_of_nonneg_left hv h1
  omega
def sBlk : Sp
  | [.agg [.int .i64 d, .int .i64 v, .int .i64 a, .int .i64 b]] => .pre (pOK d v a b) (.tup [.agg [.int .i64 (ab d), .int .i64 v, .int .i64 (ab d / v), .int .i64 (ab d % v)], .int .i64 (sg d)])
  | _ => .no
theorem ok36 : EntOK Try.prog TE 36 sBlk := by
  refine ⟨callable_of Try.func36 (by kernel_rfl), fun args => ?_⟩
  unfold sBlk
  split
  · rename_i d v a b
    intro hp
    obtain ⟨⟨v1, v2⟩, _, _, d1, d2⟩ := hp
    refine fn_ofF tabsOK specOK_nil mixed Try.func36 (by kernel_rfl) ?_
    have a0 := ab_nonneg d
    have a1 := ab_le (d := d) (m := 1099511627776) ⟨d1, d2⟩
    have a2 := ediv_le a0 v1
    have a3 : 0 ≤ ab d / v := Int.ediv_nonneg a0 (by omega)
    have e1 : wr ((ab d).tdiv v) = ab d / v := by rw [Int.tdiv_eq_ediv_of_nonneg a0, wr_id (by omega) (by omega)]
    have e2 : (ab d).tmod v = ab d % v := Int.tmod_eq_emod_of_nonneg a0
    refine Brn.mk (fun h => ?_) (fun h => ?_)
    · have h := of_decide_eq_true h
      have e : wr (0 - d) = ab d := by rw [wr_id (by omega) (by omega), ab, if_pos h]; omega
      refine Chk.mk (by omega) (Chk.mk (by omega) (Chk.mk (by kernel_rfl) ?_))
      refine AVle.tup2 (.agg ?_) (.int (by rw [sg, if_pos h]))
      show [AV.int .i64 (wr (0 - d)), AV.int .i64 v, AV.int .i64 (wr ((wr (0 - d)).tdiv v)), AV.int .i64 ((wr (0 - d)).tmod v)] = _
      rw [e, e1, e2]
    · have h := of_decide_eq_false h
      have e : d = ab d := by rw [ab, if_neg h]
      refine Chk.mk (by omega) (Chk.mk (by omega) (Chk.mk (by kernel_rfl) ?_))
      refine AVle.tup2 (.agg ?_) (.int (by rw [sg, if_neg h]))
      show [AV.int .i64 d, AV.int .i64 v, AV.int .i64 (wr (d.tdiv v)), AV.int .i64 (d.tmod v)] = _
      rw [← e] at e1 e2 ⊢
      rw [e1, e2]
  · trivial
def sAt : Sp
  | [.agg [.int .i64 d, .int .i64 v, .int .i64 f, .int .i64 r], .int .i64 k] => .ok (.int .i64 (bAt v f r k))
  | _ => .no
theorem ok39 : EntOK Try.prog TE 39 sAt := by
  refine ⟨callable_of Try.func39 (by kernel_rfl), fun args => ?_⟩
  unfold sAt
  split
  · rename_i d v f r k
    refine fn_ofF tabsOK specOK_nil mixed Try.func39 (by kernel_rfl) ?_
    refine Brn.mk (fun h => AVle.int ?_) (fun h => ?_)
    · exact (if_pos (.inl (of_decide_eq_true h))).symm
    refine Brn.mk (fun h2 => AVle.int ?_) (fun h2 => ?_)
    · exact (if_pos (.inr (of_decide_eq_true h2))).symm
    have e : ¬ (k < 0 ∨ f < k) := fun q => by rcases q with q | q; exact of_decide_eq_false h q; exact of_decide_eq_false h2 q
    refine Brn.mk (fun h3 => AVle.int ?_) (fun h3 => AVle.int ?_)
    · rw [bAt, if_neg e, if_pos (of_decide_eq_true h3)]
    · rw [bAt, if_neg e, if_neg (of_decide_eq_false h3)]
  · trivial
def sUp : Sp
  | [.agg [.int .i64 d, .int .i64 v, .int .i64 f, .int .i64 r], .int .i64 k] => .pre (Blk d v f r ∧ d ≤ 1099511627776) (.int .i64 (bUp v f d k))
  | _ => .no
theorem ok40 : EntOK Try.prog TE 40 sUp := by
  refine ⟨callable_of Try.func40 (by kernel_rfl), fun args => ?_⟩
  unfold sUp
  split
  · rename_i d v f r k
    rintro ⟨B, hd⟩
    refine fn_ofF tabsOK specOK_nil mixed Try.func40 (by kernel_rfl) ?_
    refine Brn.mk (fun h => AVle.int ?_) (fun h => ?_)
    · exact (if_pos (of_decide_eq_true h)).symm
    have h := of_decide_eq_false h
    refine Brn.mk (fun h3 => AVle.int ?_) (fun h3 => AVle.int ?_)
    · have h3 := of_decide_eq_true h3
      have hu : bUp v f d k = (k + 1) * v := by rw [bUp, if_neg h, if_pos h3]
      have l := bUp_le B k
      have n := bUp_nonneg B k
      rw [hu] at l n ⊢
      have dd := B.dd
      have r0 := B.r0
      have : f * 1 ≤ f * v := Int.mul_le_mul_of_nonneg_left B.v1 B.f0
      rw [wr_id (n := k + 1) (by omega) (by omega), wr_id (by omega) (by omega)]
    · rw [bUp, if_neg h, if_neg (of_decide_eq_false h3)]
  · trivial
/-- The number of ticks. -/
def lenP (d v a b : Int) : Int := if elN (ab d / v) (ab d % v) = 0 then 0 else elN (ab d / v) (ab d % v) + a + b - 1
def sLen : Sp
  | [.agg [.int .i64 d, .int .i64 v, .int .i64 a, .int .i64 b]] => .pre (pOK d v a b) (.int .i64 (lenP d v a b))
  | _ => .no
theorem ok34 : EntOK Try.prog TE 34 sLen := by
  refine ⟨callable_of Try.func34 (by kernel_rfl), fun args => ?_⟩
  unfold sLen
  split
  · rename_i d v a b
    intro hp
    have hp' := hp
    obtain ⟨⟨v1, v2⟩, ⟨a1, a2⟩, ⟨b1, b2⟩, d1, d2⟩ := hp'
    refine fn_ofF tabsOK (specOK_cons ok36 specOK_nil) mixed Try.func34 (by kernel_rfl) ?_
    have c0 := ab_nonneg d
    have c1 := ab_le (d := d) (m := 1099511627776) ⟨d1, d2⟩
    have c2 := ediv_le c0 v1
    have c3 : 0 ≤ ab d / v := Int.ediv_nonneg c0 (by omega)
    refine Chk.mk hp ?_
    refine Brn.mk (fun h => ?_) (fun h => ?_)
    · have h := of_decide_eq_true h
      have e : wr (ab d / v + 1) = elN (ab d / v) (ab d % v) := by rw [elN, if_pos h, wr_id (by omega) (by omega)]
      have e' : elN (ab d / v) (ab d % v) = ab d / v + 1 := by rw [elN, if_pos h]
      refine Brn.mk (fun h2 => AVle.int ?_) (fun h2 => AVle.int ?_)
      · have h2 : wr (ab d / v + 1) = 0 := of_decide_eq_true h2
        rw [e] at h2
        rw [lenP, if_pos h2]
      · have h2 : ¬ wr (ab d / v + 1) = 0 := of_decide_eq_false h2
        rw [e] at h2 ⊢
        rw [lenP, if_neg h2, wr_id (n := _ + a) (by omega) (by omega), wr_id (n := _ + b) (by omega) (by omega), wr_id (by omega) (by omega)]
    · have h := of_decide_eq_false h
      have e : ab d / v = elN (ab d / v) (ab d % v) := by rw [elN, if_neg h]
      refine Brn.mk (fun h2 => AVle.int ?_) (fun h2 => AVle.int ?_)
      · have h2 : ab d / v = 0 := of_decide_eq_true h2
        rw [e] at h2
        rw [lenP, if_pos h2]
      · have h2 : ¬ ab d / v = 0 := of_decide_eq_false h2
        rw [e] at h2
        rw [lenP, if_neg h2, ← e, wr_id (n := _ + a) (by omega) (by omega), wr_id (n := _ + b) (by omega) (by omega), wr_id (by omega) (by omega)]
  · trivial
def sLength : Sp
  | [.agg [.int .i64 d, .int .i64 v, .int .i64 a, .int .i64 b]] => .ok (.tup [.int .i64 (if pOK d v a b then lenP d v a b else 0), .err (pchk d v a b)])
  | _ => .no
theorem ok14 : EntOK Try.prog TE 14 sLength := by
  refine ⟨callable_of Try.func14 (by kernel_rfl), fun args => ?_⟩
  unfold sLength
  split
  · rename_i d v a b
    refine fn_ofF tabsOK (specOK_cons ok25 (specOK_cons ok34 specOK_nil)) mixed Try.func14 (by kernel_rfl) ?_
    refine Brn.mk (fun h => ?_) (fun h => ?_)
    · have h : ¬ pOK d v a b := fun q => ndT h (pchk_ok q)
      exact AVle.tup2 (.int (by rw [if_neg h])) (.err rfl)
    · have h : pOK d v a b := pchk0.1 (ndF h)
      refine Chk.mk h ?_
      exact AVle.tup2 (.int (by rw [if_pos h])) (.nilErr (pchk_ok h))
  · trivial
end
end Go.Proofs.Ytpndkmppncpkgaa.Img
