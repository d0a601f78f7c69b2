/- Chapter 48: the checks. Conditions: none. -/
import Derived.Test.YtiodcjbpfhfmbaaFlt1
namespace Go.Proofs.Ytiodcjbpfhfmbaa.Img
open Go Go.Proofs.Ytiodcjbpfhfmbaa.AI Go.Proofs
noncomputable section
set_option maxRecDepth 100000
def sNum : Sp
  | [.err n] => .ok (.int .i64 n)
  | _ => .no
theorem okNum : EntOK Try.prog TE 13 sNum := by
  refine ⟨callable_of Try.func13 (by kernel_rfl), fun args => ?_⟩
  unfold sNum
  split
  · rename_i n
    refine fn_ofF tabsOK specOK_nil mixed Try.func13 (by kernel_rfl) ?_
    refine Brn.mk (fun h => ?_) (fun h => ?_)
    · refine AVle.int ?_
      simp at h; exact h.symm
    · refine Brn.mk (fun h2 => ?_) (fun h2 => ?_)
      · exact AVle.int rfl
      · simp_all
  · trivial
def badR (r : Int) : Bool := decide (r < 0) || decide (4 < r)
theorem badR_no {r : Int} (h : badR r = false) : 0 ≤ r ∧ r ≤ 4 := by
  unfold badR at h
  rw [Bool.or_eq_false_iff] at h
  have := of_decide_eq_false h.1
  have := of_decide_eq_false h.2
  omega
def sBad : Sp
  | [.agg [.int .i64 r, .bit _]] => .ok (.bit (badR r))
  | _ => .no
theorem ok29 : EntOK Try.prog TE 29 sBad := by
  refine ⟨callable_of Try.func29 (by kernel_rfl), fun args => ?_⟩
  unfold sBad
  split
  · rename_i r l
    refine fn_ofF tabsOK specOK_nil mixed Try.func29 (by kernel_rfl) ?_
    refine Brn.mk (fun h => AVle.bit ?_) (fun h => AVle.bit ?_)
    · rw [badR, show decide (r < 0) = true from h]; rfl
    · rw [badR, show decide (r < 0) = false from h, Bool.false_or]
  · trivial
structure IdxR (F s n : Nat) (f : Nat → Nat → AV) : Prop where
  F : F = 29
  f : IsR s n f
  n : n ≤ 1000
def anyBad (r : Nat → Int) (n : Nat) : Bool := anyP (fun i => badR (r i)) n 0
def sIdx : Sp
  | [.sl s n f, .clo F [] []] => .pre (IdxR F s n f) (.int .i64 (idxF (fun i => badR (vI f i)) n 0))
  | _ => .no
theorem ok35 : EntOK Try.prog TE 35 sIdx := by
  refine ⟨callable_of Try.func35 (by kernel_rfl), fun args => ?_⟩
  unfold sIdx
  split
  · rename_i s n f F
    rintro ⟨rfl, hf, hn⟩
    refine FnOK.args (m := [.sl 2 n (rulF (vI f) (vL f)), .clo 29 [] []]) ?_ ⟨le2_sl hf.le1, fun _ _ _ h => h, trivial⟩
    generalize vI f = r
    generalize vL f = l
    refine fn_ofF tabsOK (specOK_cons ok29 specOK_nil) mixed Try.func35 (by kernel_rfl) ?_
    refine LoopOK.mk ⟨{ i : Nat // i ≤ n ∧ idxF (fun i => badR (r i)) (n - i) i = idxF (fun i => badR (r i)) n 0 }, fun i => mkSt [(0, .sl 2 n (rulF r l)), (1, .clo 29 [] []), (7, .int .i64 n), (8, .int .i64 i.1)]
      [], fun i => n - i.1, ⟨⟨0, by omega, rfl⟩, ?_⟩, ?_⟩
    · exact wk_of [] rfl ⟨⟨rfl, rfl⟩, ⟨rfl, rfl⟩, ⟨rfl, rfl⟩, ⟨rfl, rfl⟩, trivial⟩ trivial
    rintro ⟨i, hi, he⟩
    refine Brn.mk (fun h => ?_) (fun h => ?_)
    · have h : (i : Int) < n := of_decide_eq_true h
      refine Chk.mk ⟨Int.natCast_nonneg i, h⟩ ?_
      refine Brn.mk (fun h2 => AVle.int ((idxF_hit (p := fun i => badR (r i)) (i := i) (by omega) h2).symm.trans he)) (fun h2 => ?_)
      refine ⟨⟨i + 1, by omega, (idxF_miss (p := fun i => badR (r i)) (i := i) (by omega) h2).symm.trans he⟩, by show n - (i + 1) < n - i; omega, ?_⟩
      exact wk_of [] rfl ⟨⟨rfl, rfl⟩, ⟨rfl, rfl⟩, ⟨rfl, rfl⟩, ⟨wrS (i := i) (by omega), rfl⟩, trivial⟩ trivial
    · have h : ¬ (i : Int) < n := of_decide_eq_false h
      have : i = n := by omega
      subst this
      rw [Nat.sub_self] at he
      exact AVle.int he
  · trivial
def sCon : Sp
  | [.sl s n f, .clo F [] []] => .pre (IdxR F s n f) (.bit (anyBad (vI f) n))
  | _ => .no
theorem ok28 : EntOK Try.prog TE 28 sCon := by
  refine ⟨callable_of Try.func28 (by kernel_rfl), fun args => ?_⟩
  unfold sCon
  split
  · intro H
    refine fn_ofF tabsOK (specOK_cons ok35 specOK_nil) mixed Try.func28 (by kernel_rfl) ?_
    exact Chk.mk H (AVle.bit (idxF_any _ _ _))
  · trivial
def rchk (n : Nat) (r : Nat → Int) : Int := if n = 0 then 11 else if 32 < n then 4 else if anyBad r n = true then 3 else 0
theorem rchk_zero {n : Nat} {r : Nat → Int} (h : rchk n r = 0) : 1 ≤ n ∧ n ≤ 32 ∧ ∀ i, i < n → 0 ≤ r i ∧ r i ≤ 4 := by
  unfold rchk at h
  split at h
  · cases h
  · split at h
    · cases h
    · split at h
      · cases h
      · rename_i h3
        rw [Bool.not_eq_true] at h3
        exact ⟨by omega, by omega, fun i hi => badR_no (anyP_no h3 i hi)⟩
structure RulOK (s n : Nat) (f : Nat → Nat → AV) : Prop where
  f : IsR s n f
  n : n ≤ 1000
def sChk : Sp
  | [.sl s n f] => .pre (RulOK s n f) (.err (rchk n (vI f)))
  | _ => .no
theorem ok14 : EntOK Try.prog TE 14 sChk := by
  refine ⟨callable_of Try.func14 (by kernel_rfl), fun args => ?_⟩
  unfold sChk
  split
  · rename_i s n f
    rintro ⟨hf, hn⟩
    refine FnOK.args (m := [.sl 2 n (rulF (vI f) (vL f))]) ?_ ⟨le2_sl hf.le1, trivial⟩
    generalize vI f = r
    generalize vL f = l
    refine fn_ofF tabsOK (specOK_cons ok28 specOK_nil) mixed Try.func14 (by kernel_rfl) ?_
    refine Brn.mk (fun h => Chk.mk (by decide) (AVle.err ?_)) (fun h => ?_)
    · have h : (n : Int) = 0 := of_decide_eq_true h
      exact (if_pos (by omega)).symm
    have h : ¬ (n : Int) = 0 := of_decide_eq_false h
    refine Brn.mk (fun h2 => Chk.mk (by decide) (AVle.err ?_)) (fun h2 => ?_)
    · have h2 : (32 : Int) < n := of_decide_eq_true h2
      rw [rchk, if_neg (by omega), if_pos (by omega)]
    have h2 : ¬ (32 : Int) < n := of_decide_eq_false h2
    refine Chk.mk ⟨rfl, isR_mk, hn⟩ ?_
    refine Brn.mk (fun h3 => Chk.mk (by decide) (AVle.err ?_)) (fun h3 => AVle.nilErr ?_)
    · have h3 : anyBad r n = true := h3
      rw [rchk, if_neg (by omega), if_neg (by omega), if_pos h3]
    · have h3 : anyBad r n = false := h3
      rw [rchk, if_neg (by omega), if_neg (by omega), if_neg (by rw [h3]; decide)]
  · trivial
def sRChk : Sp
  | [.sl s n f] => .pre (RulOK s n f) (.int .i64 (rchk n (vI f)))
  | _ => .no
theorem ok11 : EntOK Try.prog TE 11 sRChk := by
  refine ⟨callable_of Try.func11 (by kernel_rfl), fun args => ?_⟩
  unfold sRChk
  split
  · rename_i s n f
    rintro ⟨hf, hn⟩
    refine FnOK.args (m := [.sl 2 n (rulF (vI f) (vL f))]) ?_ ⟨le2_sl hf.le1, trivial⟩
    generalize vI f = r
    generalize vL f = l
    refine fn_ofF tabsOK specOK_nil mixed Try.func11 (by kernel_rfl) ?_
    refine Brn.mk (fun h => AVle.int ?_) (fun h => ?_)
    · have h : (n : Int) = 0 := of_decide_eq_true h
      exact (if_pos (by omega)).symm
    have h : ¬ (n : Int) = 0 := of_decide_eq_false h
    refine Brn.mk (fun h2 => AVle.int ?_) (fun h2 => ?_)
    · have h2 : (32 : Int) < n := of_decide_eq_true h2
      rw [rchk, if_neg (by omega), if_pos (by omega)]
    have h2 : ¬ (32 : Int) < n := of_decide_eq_false h2
    refine LoopOK.mk ⟨{ i : Nat // i ≤ n ∧ anyP (fun i => badR (r i)) (n - i) i = anyBad r n }, fun i => mkSt [(0, .sl 2 n (rulF r l)), (3, .int .i64 i.1)]
      [], fun i => n - i.1, ⟨⟨0, by omega, rfl⟩, ?_⟩, ?_⟩
    · exact wk_of [] rfl ⟨⟨rfl, rfl⟩, ⟨rfl, rfl⟩, trivial⟩ trivial
    rintro ⟨i, hi, he⟩
    refine Brn.mk (fun h3 => ?_) (fun h3 => ?_)
    · have h3 : (i : Int) < n := of_decide_eq_true h3
      have hit : badR (r i) = true → AVle TE (.int .i64 3) (.int .i64 (rchk n r)) := fun hb => AVle.int (by
        have := (anyP_hit (p := fun i => badR (r i)) (i := i) (n := n) (by omega) hb).symm.trans he
        rw [rchk, if_neg (by omega), if_neg (by omega), if_pos this.symm])
      refine Chk.mk ⟨Int.natCast_nonneg i, h3⟩ ?_
      refine Brn.mk (fun h4 => hit ?_) (fun h4 => ?_)
      · rw [badR, show decide (r i < 0) = true from h4]; rfl
      refine Chk.mk ⟨Int.natCast_nonneg i, h3⟩ ?_
      refine Brn.mk (fun h5 => hit ?_) (fun h5 => ?_)
      · rw [badR, show decide (4 < r i) = true from h5, Bool.or_true]
      have hno : badR (r i) = false := by rw [badR, show decide (r i < 0) = false from h4, show decide (4 < r i) = false from h5]; rfl
      refine ⟨⟨i + 1, by omega, (anyP_miss (p := fun i => badR (r i)) (i := i) (by omega) hno).symm.trans he⟩, by show n - (i + 1) < n - i; omega, ?_⟩
      exact wk_of [] rfl ⟨⟨rfl, rfl⟩, ⟨wrS (i := i) (by omega), rfl⟩, trivial⟩ trivial
    · have h3 : ¬ (i : Int) < n := of_decide_eq_false h3
      have hin : i = n := by omega
      rw [hin, Nat.sub_self] at he
      refine AVle.int ?_
      rw [rchk, if_neg (by omega), if_neg (by omega), if_neg (by rw [← he]; exact Bool.false_ne_true)]
  · trivial
/-- A state's slices. -/
structure StOK (a h lg : AV) : Prop where
  pa : BAV a
  ph : BAV h
  pl : EAV lg
  an : slN a ≤ 1000
  hn : slN h ≤ 1000
  ln : slN lg ≤ 1000
def stL (n m : Nat) (x y : Nat → Bool) (re tk : Int) (k : Nat) (ea eb : Nat → Int) : List AV := [.sl 1 n (bitF x), .sl 1 m (bitF y), .int .i64 re, .int .i64 tk, .sl 2 k (evnF ea eb)]
theorem stOK_mk {n m k : Nat} {x y : Nat → Bool} {ea eb : Nat → Int} (h1 : n ≤ 1000) (h2 : m ≤ 1000) (h3 : k ≤ 1000) : StOK (.sl 1 n (bitF x)) (.sl 1 m (bitF y)) (.sl 2 k (evnF ea eb)) := ⟨isB_mk, isB_mk, isE_mk, h1, h2, h3⟩
theorem StOK.le {T : TypeId} {a h lg : AV} {re tk : Int} (H : StOK a h lg) : AVle2 T (.agg [a, h, .int .i64 re, .int .i64 tk, lg]) (.agg (stL (slN a) (slN h) (vB (slF a)) (vB (slF h)) re tk (slN lg) (vI (slF lg)) (vJ (slF lg)))) :=
  .aggL ⟨H.pa.le, H.ph.le, .refl, .refl, H.pl.le, trivial⟩
/-- The check of a state. -/
def schk (n na nh : Nat) (re tk : Int) (k : Nat) : Int := if ¬ (na = n ∧ nh = n) then 11 else if ¬ ((0 ≤ re ∧ re ≤ 4) ∧ 0 ≤ tk ∧ tk ≤ 1099511627776) then 3 else if 16 < k then 4 else 0
theorem schk_zero {n na nh : Nat} {re tk : Int} {k : Nat} (h : schk n na nh re tk k = 0) : na = n ∧ nh = n ∧ (0 ≤ re ∧ re ≤ 4) ∧ (0 ≤ tk ∧ tk ≤ 1099511627776) ∧ k ≤ 16 := by
  unfold schk at h
  split at h
  · cases h
  · split at h
    · cases h
    · split at h
      · cases h
      · rename_i h1 h2 h3
        have h1 := Decidable.not_not.1 h1
        have h2 := Decidable.not_not.1 h2
        exact ⟨h1.1, h1.2, h2.1, h2.2, by omega⟩
def tchk (n : Nat) (r : Nat → Int) (na nh : Nat) (re tk : Int) (k : Nat) : Int := if rchk n r = 0 then schk n na nh re tk k else rchk n r
theorem schk11 {n na nh : Nat} {re tk : Int} {k : Nat} (h : ¬ (na = n ∧ nh = n)) : 11 = schk n na nh re tk k := by rw [schk, if_pos h]
theorem schk3 {n na nh : Nat} {re tk : Int} {k : Nat} (h : na = n ∧ nh = n) (h2 : ¬ ((0 ≤ re ∧ re ≤ 4) ∧ 0 ≤ tk ∧ tk ≤ 1099511627776)) : 3 = schk n na nh re tk k := by rw [schk, if_neg (by simp [h]), if_pos h2]
theorem schk4 {n na nh : Nat} {re tk : Int} {k : Nat} (h : na = n ∧ nh = n) (h2 : (0 ≤ re ∧ re ≤ 4) ∧ 0 ≤ tk ∧ tk ≤ 1099511627776) (h3 : 16 < k) : 4 = schk n na nh re tk k := by rw [schk, if_neg (by simp [h]), if_neg (by simp [h2]), if_pos h3]
theorem schk0 {n na nh : Nat} {re tk : Int} {k : Nat} (h : na = n ∧ nh = n) (h2 : (0 ≤ re ∧ re ≤ 4) ∧ 0 ≤ tk ∧ tk ≤ 1099511627776) (h3 : ¬ 16 < k) : schk n na nh re tk k = 0 := by rw [schk, if_neg (by simp [h]), if_neg (by simp [h2]), if_neg h3]
def sTChk : Sp
  | [.sl s n f, .agg [a, h, .int .i64 re, .int .i64 tk, lg]] => .pre (RulOK s n f ∧ StOK a h lg) (.err (tchk n (vI f) (slN a) (slN h) re tk (slN lg)))
  | _ => .no
theorem ok30 : EntOK Try.prog TE 30 sTChk := by
  refine ⟨callable_of Try.func30 (by kernel_rfl), fun args => ?_⟩
  unfold sTChk
  split
  · rename_i s n f a h re tk lg
    rintro ⟨⟨hf, hn⟩, H⟩
    refine FnOK.args (m := [.sl 2 n (rulF (vI f) (vL f)), .agg (stL (slN a) (slN h) (vB (slF a)) (vB (slF h)) re tk (slN lg) (vI (slF lg)) (vJ (slF lg)))]) ?_ ⟨le2_sl hf.le1, H.le, trivial⟩
    generalize vI f = r
    generalize vL f = l
    generalize slN a = na
    generalize slN h = nh
    generalize slN lg = k
    refine fn_ofF tabsOK (specOK_cons ok14 specOK_nil) mixed Try.func30 (by kernel_rfl) ?_
    refine Chk.mk ⟨isR_mk, hn⟩ ?_
    refine Brn.mk (fun h1 => AVle.err ?_) (fun h1 => ?_)
    · exact (if_neg (show ¬ rchk n r = 0 from ndT h1)).symm
    have h1 : rchk n r = 0 := ndF h1
    have e : tchk n r na nh re tk k = schk n na nh re tk k := if_pos h1
    rw [e]
    refine Brn.mk (fun h2 => Chk.mk (by decide) (AVle.err (schk11 fun q => ndT h2 (by rw [q.1])))) (fun h2 => ?_)
    refine Brn.mk (fun h3 => Chk.mk (by decide) (AVle.err (schk11 fun q => ndT h3 (by rw [q.2])))) (fun h3 => ?_)
    have hl : na = n ∧ nh = n := ⟨Int.ofNat.inj (ndF h2), Int.ofNat.inj (ndF h3)⟩
    refine Brn.mk (fun h4 => Chk.mk (by decide) (AVle.err (schk3 hl fun q => by have := of_decide_eq_true h4; omega))) (fun h4 => ?_)
    refine Brn.mk (fun h5 => Chk.mk (by decide) (AVle.err (schk3 hl fun q => by have := of_decide_eq_true h5; omega))) (fun h5 => ?_)
    refine Brn.mk (fun h6 => Chk.mk (by decide) (AVle.err (schk3 hl fun q => by have := of_decide_eq_true h6; omega))) (fun h6 => ?_)
    refine Brn.mk (fun h7 => Chk.mk (by decide) (AVle.err (schk3 hl fun q => by have := of_decide_eq_true h7; omega))) (fun h7 => ?_)
    have h4 := of_decide_eq_false h4
    have h5 := of_decide_eq_false h5
    have h6 := of_decide_eq_false h6
    have h7 := of_decide_eq_false h7
    have hr : (0 ≤ re ∧ re ≤ 4) ∧ 0 ≤ tk ∧ tk ≤ 1099511627776 := by omega
    refine Brn.mk (fun h8 => Chk.mk (by decide) (AVle.err (schk4 hl hr (by have := of_decide_eq_true h8; omega)))) (fun h8 => AVle.nilErr (schk0 hl hr (by have := of_decide_eq_false h8; omega)))
  · trivial
def sSChk : Sp
  | [.sl s n f, .agg [a, h, .int .i64 re, .int .i64 tk, lg]] => .pre (RulOK s n f ∧ StOK a h lg) (.int .i64 (schk n (slN a) (slN h) re tk (slN lg)))
  | _ => .no
theorem ok19 : EntOK Try.prog TE 19 sSChk := by
  refine ⟨callable_of Try.func19 (by kernel_rfl), fun args => ?_⟩
  unfold sSChk
  split
  · rename_i s n f a h re tk lg
    rintro ⟨⟨hf, hn⟩, H⟩
    refine FnOK.args (m := [.sl 2 n (rulF (vI f) (vL f)), .agg (stL (slN a) (slN h) (vB (slF a)) (vB (slF h)) re tk (slN lg) (vI (slF lg)) (vJ (slF lg)))]) ?_ ⟨le2_sl hf.le1, H.le, trivial⟩
    generalize vI f = r
    generalize vL f = l
    generalize slN a = na
    generalize slN h = nh
    generalize slN lg = k
    refine fn_ofF tabsOK specOK_nil mixed Try.func19 (by kernel_rfl) ?_
    refine Brn.mk (fun h2 => AVle.int (schk11 fun q => ndT h2 (by rw [q.1]))) (fun h2 => ?_)
    refine Brn.mk (fun h3 => AVle.int (schk11 fun q => ndT h3 (by rw [q.2]))) (fun h3 => ?_)
    have hl : na = n ∧ nh = n := ⟨Int.ofNat.inj (ndF h2), Int.ofNat.inj (ndF h3)⟩
    refine Brn.mk (fun h4 => AVle.int (schk3 hl fun q => by have := of_decide_eq_true h4; omega)) (fun h4 => ?_)
    refine Brn.mk (fun h5 => AVle.int (schk3 hl fun q => by have := of_decide_eq_true h5; omega)) (fun h5 => ?_)
    refine Brn.mk (fun h6 => AVle.int (schk3 hl fun q => by have := of_decide_eq_true h6; omega)) (fun h6 => ?_)
    refine Brn.mk (fun h7 => AVle.int (schk3 hl fun q => by have := of_decide_eq_true h7; omega)) (fun h7 => ?_)
    have h4 := of_decide_eq_false h4
    have h5 := of_decide_eq_false h5
    have h6 := of_decide_eq_false h6
    have h7 := of_decide_eq_false h7
    have hr : (0 ≤ re ∧ re ≤ 4) ∧ 0 ≤ tk ∧ tk ≤ 1099511627776 := by omega
    refine Brn.mk (fun h8 => AVle.int (schk4 hl hr (by have := of_decide_eq_true h8; omega))) (fun h8 => AVle.int (schk0 hl hr (by have := of_decide_eq_false h8; omega)).symm)
  · trivial
end
end Go.Proofs.Ytiodcjbpfhfmbaa.Img
