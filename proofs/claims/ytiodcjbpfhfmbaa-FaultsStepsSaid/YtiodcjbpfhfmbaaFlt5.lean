/- Chapter 48: equality of states, sizes, copies. Conditions: none. -/
import Derived.Test.YtiodcjbpfhfmbaaFlt4
namespace Go.Proofs.Ytiodcjbpfhfmbaa.Img
open Go Go.Proofs.Ytiodcjbpfhfmbaa.AI Go.Proofs
noncomputable section
set_option maxRecDepth 100000
structure SameS (a h lg a' h' lg' : AV) (re re' tk tk' : Int) : Prop where
  re : re = re'
  tk : tk = tk'
  n : slN a = slN a'
  m : slN h = slN h'
  k : slN lg = slN lg'
  x : ∀ i, i < slN a → vB (slF a) i = vB (slF a') i
  y : ∀ i, i < slN h → vB (slF h) i = vB (slF h') i
  ea : ∀ i, i < slN lg → vI (slF lg) i = vI (slF lg') i
  eb : ∀ i, i < slN lg → vJ (slF lg) i = vJ (slF lg') i
def sSame : Sp
  | [.agg [a, h, .int .i64 re, .int .i64 tk, lg], .agg [a', h', .int .i64 re', .int .i64 tk', lg']] => .pre (StOK a h lg ∧ StOK a' h' lg' ∧ SameS a h lg a' h' lg' re re' tk tk') (.bit true)
  | _ => .no
theorem ok15 : EntOK Try.prog TE 15 sSame := by
  refine ⟨callable_of Try.func15 (by kernel_rfl), fun args => ?_⟩
  unfold sSame
  split
  · rename_i a h re tk lg a' h' re' tk' lg'
    rintro ⟨H, H', rfl, rfl, en, em, ek, ex, ey, ea, eb⟩
    refine FnOK.args (m := [.agg (stL (slN a) (slN h) (vB (slF a)) (vB (slF h)) re tk (slN lg) (vI (slF lg)) (vJ (slF lg))), .agg (stL (slN a') (slN h') (vB (slF a')) (vB (slF h')) re tk (slN lg') (vI (slF lg')) (vJ (slF lg')))]) ?_ ⟨H.le, H'.le, trivial⟩
    obtain ⟨_, _, _, an, hn, ln⟩ := H
    rw [← en, ← em, ← ek]
    generalize slN a = n at *
    generalize slN h = m at *
    generalize slN lg = k at *
    generalize vB (slF a) = x at *
    generalize vB (slF h) = y at *
    generalize vI (slF lg) = u at *
    generalize vJ (slF lg) = w at *
    generalize vB (slF a') = x' at *
    generalize vB (slF h') = y' at *
    generalize vI (slF lg') = u' at *
    generalize vJ (slF lg') = w' at *
    refine fn_ofF tabsOK specOK_nil mixed Try.func15 (by kernel_rfl) ?_
    refine Brn.mk (fun q => absurd rfl (ndT q)) (fun _ => ?_)
    refine Brn.mk (fun q => absurd rfl (ndT q)) (fun _ => ?_)
    refine Brn.mk (fun q => absurd rfl (ndT q)) (fun _ => ?_)
    refine Brn.mk (fun q => absurd rfl (ndT q)) (fun _ => ?_)
    refine Brn.mk (fun q => absurd rfl (ndT q)) (fun _ => ?_)
    refine LoopOK.mk ⟨{ i : Nat // i ≤ n }, fun i => mkSt [(2, .loc 2 0), (3, .loc 3 0), (5, .int .i64 i.1)]
      [(2, ⟨28, 5, 1, fun _ j => nth (stL n m x y re tk k u w) j, 0, true⟩), (3, ⟨28, 5, 1, fun _ j => nth (stL n m x' y' re tk k u' w') j, 0, true⟩)], fun i => n - i.1, ⟨⟨0, by omega⟩, ?_⟩, ?_⟩
    · refine wk_of [(2, some 2), (3, some 3)] rfl ⟨rfl, rfl, ⟨rfl, rfl⟩, trivial⟩ ⟨RowLe.fin rfl rfl rfl rfl rfl ?_, RowLe.fin rfl rfl rfl rfl rfl ?_, trivial⟩
      all_goals (repeat' first | exact trivial | exact ⟨by kernel_rfl, by kernel_rfl⟩ | exact Or.inr (by kernel_rfl) | (show _ = _; kernel_rfl) | refine ⟨?_, ?_⟩)
    rintro ⟨i, hi⟩
    have hi : i ≤ n := hi
    refine Brn.mk (fun h3 => ?_) (fun _ => ?_)
    · have h3 : (i : Int) < n := of_decide_eq_true h3
      refine Chk.mk ⟨Int.natCast_nonneg i, h3⟩ (Chk.mk ⟨Int.natCast_nonneg i, h3⟩ ?_)
      have e := ex i (by omega)
      refine Brn.mk (fun q => absurd (show (!(x i == x' i)) = true from q) (by rw [e, beq_self_eq_true]; decide)) (fun _ => ?_)
      refine ⟨⟨i + 1, by omega⟩, by show n - (i + 1) < n - i; omega, ?_⟩
      refine wk_of [(2, some 2), (3, some 3)] rfl ⟨rfl, rfl, ⟨wrS (i := i) (by omega), rfl⟩, trivial⟩ ⟨RowLe.fin rfl rfl rfl rfl rfl ?_, RowLe.fin rfl rfl rfl rfl rfl ?_, trivial⟩
      all_goals (repeat' first | exact trivial | exact ⟨by kernel_rfl, by kernel_rfl⟩ | exact Or.inr (by kernel_rfl) | (show _ = _; kernel_rfl) | refine ⟨?_, ?_⟩)
    refine LoopOK.mk ⟨{ i : Nat // i ≤ m }, fun i => mkSt [(2, .loc 2 0), (3, .loc 3 0), (6, .int .i64 i.1)]
      [(2, ⟨28, 5, 1, fun _ j => nth (stL n m x y re tk k u w) j, 0, true⟩), (3, ⟨28, 5, 1, fun _ j => nth (stL n m x' y' re tk k u' w') j, 0, true⟩)], fun i => m - i.1, ⟨⟨0, by omega⟩, ?_⟩, ?_⟩
    · refine wk_of [(2, some 2), (3, some 3)] rfl ⟨rfl, rfl, ⟨rfl, rfl⟩, trivial⟩ ⟨RowLe.fin rfl rfl rfl rfl rfl ?_, RowLe.fin rfl rfl rfl rfl rfl ?_, trivial⟩
      all_goals (repeat' first | exact trivial | exact ⟨by kernel_rfl, by kernel_rfl⟩ | exact Or.inr (by kernel_rfl) | (show _ = _; kernel_rfl) | refine ⟨?_, ?_⟩)
    rintro ⟨i, hi⟩
    have hi : i ≤ m := hi
    refine Brn.mk (fun h3 => ?_) (fun _ => ?_)
    · have h3 : (i : Int) < m := of_decide_eq_true h3
      refine Chk.mk ⟨Int.natCast_nonneg i, h3⟩ (Chk.mk ⟨Int.natCast_nonneg i, h3⟩ ?_)
      have e := ey i (by omega)
      refine Brn.mk (fun q => absurd (show (!(y i == y' i)) = true from q) (by rw [e, beq_self_eq_true]; decide)) (fun _ => ?_)
      refine ⟨⟨i + 1, by omega⟩, by show m - (i + 1) < m - i; omega, ?_⟩
      refine wk_of [(2, some 2), (3, some 3)] rfl ⟨rfl, rfl, ⟨wrS (i := i) (by omega), rfl⟩, trivial⟩ ⟨RowLe.fin rfl rfl rfl rfl rfl ?_, RowLe.fin rfl rfl rfl rfl rfl ?_, trivial⟩
      all_goals (repeat' first | exact trivial | exact ⟨by kernel_rfl, by kernel_rfl⟩ | exact Or.inr (by kernel_rfl) | (show _ = _; kernel_rfl) | refine ⟨?_, ?_⟩)
    refine LoopOK.mk ⟨{ i : Nat // i ≤ k }, fun i => mkSt [(2, .loc 2 0), (3, .loc 3 0), (7, .int .i64 i.1)]
      [(2, ⟨28, 5, 1, fun _ j => nth (stL n m x y re tk k u w) j, 0, true⟩), (3, ⟨28, 5, 1, fun _ j => nth (stL n m x' y' re tk k u' w') j, 0, true⟩)], fun i => k - i.1, ⟨⟨0, by omega⟩, ?_⟩, ?_⟩
    · refine wk_of [(2, some 2), (3, some 3)] rfl ⟨rfl, rfl, ⟨rfl, rfl⟩, trivial⟩ ⟨RowLe.fin rfl rfl rfl rfl rfl ?_, RowLe.fin rfl rfl rfl rfl rfl ?_, trivial⟩
      all_goals (repeat' first | exact trivial | exact ⟨by kernel_rfl, by kernel_rfl⟩ | exact Or.inr (by kernel_rfl) | (show _ = _; kernel_rfl) | refine ⟨?_, ?_⟩)
    rintro ⟨i, hi⟩
    have hi : i ≤ k := hi
    refine Brn.mk (fun h3 => ?_) (fun _ => AVle.bit rfl)
    have h3 : (i : Int) < k := of_decide_eq_true h3
    refine Chk.mk ⟨Int.natCast_nonneg i, h3⟩ (Chk.mk ⟨Int.natCast_nonneg i, h3⟩ ?_)
    have e1 := ea i (by omega)
    have e2 := eb i (by omega)
    refine Brn.mk (fun q => absurd (show (!(decide (u i = u' i) && (decide (w i = w' i) && true))) = true from q) (by rw [decide_eq_true e1, decide_eq_true e2]; decide)) (fun _ => ?_)
    refine ⟨⟨i + 1, by omega⟩, by show k - (i + 1) < k - i; omega, ?_⟩
    refine wk_of [(2, some 2), (3, some 3)] rfl ⟨rfl, rfl, ⟨wrS (i := i) (by omega), rfl⟩, trivial⟩ ⟨RowLe.fin rfl rfl rfl rfl rfl ?_, RowLe.fin rfl rfl rfl rfl rfl ?_, trivial⟩
    all_goals (repeat' first | exact trivial | exact ⟨by kernel_rfl, by kernel_rfl⟩ | exact Or.inr (by kernel_rfl) | (show _ = _; kernel_rfl) | refine ⟨?_, ?_⟩)
  · trivial
structure SlOK (a h lg : AV) : Prop where
  pa : BAV a
  ph : BAV h
  pl : EAV lg
theorem SlOK.le {T : TypeId} {a h lg : AV} {re tk : Int} (H : SlOK a h lg) : AVle2 T (.agg [a, h, .int .i64 re, .int .i64 tk, lg]) (.agg (stL (slN a) (slN h) (vB (slF a)) (vB (slF h)) re tk (slN lg) (vI (slF lg)) (vJ (slF lg)))) :=
  .aggL ⟨H.pa.le, H.ph.le, .refl, .refl, H.pl.le, trivial⟩
def lrg (n na nh k nn : Nat) : Bool := decide ((100 : Int) < n) || (decide ((100 : Int) < na) || (decide ((100 : Int) < nh) || (decide ((100 : Int) < k) || decide ((100 : Int) < nn))))
def sLarge : Sp
  | [.sl _ n _, .agg [a, h, .int .i64 _, .int .i64 _, lg], .agg [nw, .bit _, .bit _]] => .pre (SlOK a h lg ∧ BAV nw) (.bit (lrg n (slN a) (slN h) (slN lg) (slN nw)))
  | _ => .no
theorem lrg_no {n na nh k nn : Nat} (h : lrg n na nh k nn = false) : n ≤ 100 ∧ na ≤ 100 ∧ nh ≤ 100 ∧ k ≤ 100 ∧ nn ≤ 100 := by
  unfold lrg at h
  simp only [Bool.or_eq_false_iff, decide_eq_false_iff_not] at h
  omega
theorem ok17 : EntOK Try.prog TE 17 sLarge := by
  refine ⟨callable_of Try.func17 (by kernel_rfl), fun args => ?_⟩
  unfold sLarge
  split
  · rename_i s n f a h re tk lg nw p q
    rintro ⟨H, Hn⟩
    refine FnOK.args (m := [.sl s n f, .agg (stL (slN a) (slN h) (vB (slF a)) (vB (slF h)) re tk (slN lg) (vI (slF lg)) (vJ (slF lg))), .agg [.sl 1 (slN nw) (bitF (vB (slF nw))), .bit p, .bit q]]) ?_ ⟨fun _ _ _ h => h, H.le, .aggL ⟨Hn.le, .refl, .refl, trivial⟩, trivial⟩
    generalize slN a = na at *
    generalize slN h = nh at *
    generalize slN lg = k at *
    generalize slN nw = nn at *
    refine fn_ofF tabsOK specOK_nil mixed Try.func17 (by kernel_rfl) ?_
    have go : ∀ b, b = lrg n na nh k nn → AVle TE (.bit b) (.bit (lrg n na nh k nn)) := fun b h => AVle.bit h
    refine Brn.mk (fun h1 => go _ ?_) (fun h1 => ?_)
    · rw [lrg, show decide ((100 : Int) < n) = true from h1]; rfl
    refine Brn.mk (fun h2 => go _ ?_) (fun h2 => ?_)
    · rw [lrg, show decide ((100 : Int) < na) = true from h2, Bool.true_or, Bool.or_true]
    refine Brn.mk (fun h3 => go _ ?_) (fun h3 => ?_)
    · rw [lrg, show decide ((100 : Int) < nh) = true from h3, Bool.true_or, Bool.or_true, Bool.or_true]
    refine Brn.mk (fun h4 => go _ ?_) (fun h4 => go _ ?_)
    · rw [lrg, show decide ((100 : Int) < k) = true from h4, Bool.true_or, Bool.or_true, Bool.or_true, Bool.or_true]
    · rw [lrg, show decide ((100 : Int) < n) = false from h1, show decide ((100 : Int) < na) = false from h2, show decide ((100 : Int) < nh) = false from h3, show decide ((100 : Int) < k) = false from h4]; rfl
  · trivial
def sFits : Sp
  | [.sl _ n _, .agg [a, h, .int .i64 _, .int .i64 _, lg]] => .pre (SlOK a h lg) (.bit (decide ((slN a : Int) = n) && decide ((slN h : Int) = n)))
  | _ => .no
theorem ok23 : EntOK Try.prog TE 23 sFits := by
  refine ⟨callable_of Try.func23 (by kernel_rfl), fun args => ?_⟩
  unfold sFits
  split
  · rename_i s n f a h re tk lg
    intro H
    refine FnOK.args (m := [.sl s n f, .agg (stL (slN a) (slN h) (vB (slF a)) (vB (slF h)) re tk (slN lg) (vI (slF lg)) (vJ (slF lg)))]) ?_ ⟨fun _ _ _ h => h, H.le, trivial⟩
    generalize slN a = na at *
    generalize slN h = nh at *
    refine fn_ofF tabsOK specOK_nil mixed Try.func23 (by kernel_rfl) ?_
    refine Brn.mk (fun h1 => AVle.bit ?_) (fun h1 => AVle.bit ?_)
    · rw [show decide ((na : Int) = n) = true from h1]; rfl
    · rw [show decide ((na : Int) = n) = false from h1]; rfl
  · trivial
def sCnt : Sp
  | [.agg [a, h, .int .i64 _, .int .i64 _, lg], .int .i64 i] => .pre (SlOK a h lg ∧ (0 ≤ i ∧ i < slN a) ∧ i < slN h) (.bit (cnts a h i.toNat))
  | _ => .no
theorem ok24 : EntOK Try.prog TE 24 sCnt := by
  refine ⟨callable_of Try.func24 (by kernel_rfl), fun args => ?_⟩
  unfold sCnt
  split
  · rename_i a h re tk lg i
    rintro ⟨H, h1, h2⟩
    refine FnOK.args (m := [.agg (stL (slN a) (slN h) (vB (slF a)) (vB (slF h)) re tk (slN lg) (vI (slF lg)) (vJ (slF lg))), .int .i64 i]) ?_ ⟨H.le, fun _ _ _ h => h, trivial⟩
    have ec : cnts a h i.toNat = (vB (slF a) i.toNat || vB (slF h) i.toNat) := rfl
    rw [ec]
    generalize slN a = na at *
    generalize slN h = nh at *
    generalize vB (slF a) = x at *
    generalize vB (slF h) = y at *
    refine fn_ofF tabsOK specOK_nil mixed Try.func24 (by kernel_rfl) ?_
    refine Chk.mk h1 ?_
    refine Brn.mk (fun h3 => AVle.bit ?_) (fun h3 => ?_)
    · rw [show x i.toNat = true from h3]; rfl
    · refine Chk.mk ⟨h1.1, h2⟩ (AVle.bit ?_)
      rw [show x i.toNat = false from h3]; rfl
  · trivial
def sCloB : Sp
  | [.sl s n f] => .new (IsB s n f ∧ 1 ≤ n ∧ n ≤ 1000) ⟨4, 1, n, bitF (vB f), 0, false⟩
  | _ => .no
theorem ok31 : EntOK Try.prog TE 31 sCloB := by
  refine ⟨callable_of Try.func31 (by kernel_rfl), fun args => ?_⟩
  unfold sCloB
  split
  · rename_i s n f
    rintro ⟨hI, h1, h2⟩
    refine FnNew.args (m := [.sl 1 n (bitF (vB f))]) ?_ ⟨hI.le rfl, trivial⟩
    generalize vB f = x
    refine fn_newF tabsOK specOK_nil mixed Try.func31 (by kernel_rfl) rfl (fun _ _ _ _ => rfl) ?_
    intro b hb0
    refine Brn.mk (fun h => ?_) (fun h => ?_)
    · rw [hb0 (by omega)] at h; cases h
    · refine Chk.mk ⟨by omega, by omega⟩ ?_
      exact .inr ⟨7, 0 + n, _, rfl, rfl, rfl, rfl, Nat.zero_add n, rfl, rfl, fun h0 => absurd (show n = 0 from h0) (by omega), fun i j _ _ => rfl⟩
  · trivial
def sCloE : Sp
  | [.sl s n f] => .new (IsE s n f ∧ n ≤ 1000) ⟨57, 2, n, evnF (vI f) (vJ f), 1, false⟩
  | _ => .no
theorem ok32 : EntOK Try.prog TE 32 sCloE := by
  refine ⟨callable_of Try.func32 (by kernel_rfl), fun args => ?_⟩
  unfold sCloE
  split
  · rename_i s n f
    rintro ⟨hI, h2⟩
    refine FnNew.args (m := [.sl 2 n (evnF (vI f) (vJ f))]) ?_ ⟨le2_sl hI.le1, trivial⟩
    generalize vI f = x
    generalize vJ f = y
    refine fn_newF tabsOK specOK_nil mixed Try.func32 (by kernel_rfl) rfl (fun i j _ hj => ?_) ?_
    · have hj : j < 2 := hj
      match j, hj with
      | 0, _ => rfl
      | 1, _ => rfl
    intro b hb0
    refine Brn.mk (fun h => ?_) (fun h => ?_)
    · have : n = 0 := by
        rcases Nat.eq_zero_or_pos n with h0 | h0
        · exact h0
        · rw [hb0 h0] at h; cases h
      exact .inl ⟨rfl, (by decide : (1 : Nat) ≠ 0), this⟩
    · refine Chk.mk ⟨by omega, by omega⟩ ?_
      exact .inr ⟨7, 0 + n, _, rfl, rfl, rfl, rfl, Nat.zero_add n, rfl, rfl, fun _ => (by decide : (1 : Nat) ≠ 0), fun i j _ _ => rfl⟩
  · trivial
end
end Go.Proofs.Ytiodcjbpfhfmbaa.Img
