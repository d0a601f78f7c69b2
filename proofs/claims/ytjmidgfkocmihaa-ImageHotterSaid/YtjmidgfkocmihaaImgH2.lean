/- Layer 30: Check, by the program and by the reference. Conditions: none. -/
import Derived.Test.YtjmidgfkocmihaaImgH1
namespace Go.Proofs.Ytjmidgfkocmihaa.Img
open Go Go.Proofs.Ytjmidgfkocmihaa.AI Go.Proofs
noncomputable section
set_option maxRecDepth 100000

/-- The lengths of a slice's slices. -/
def vN (f : Nat → Nat → AV) (i : Nat) : Nat := slN (f i 0)
structure IsV (s n : Nat) (f : Nat → Nat → AV) : Prop where
  s : s = 1
  f : ∀ i, i < n → f i 0 = .sl 1 (vN f i) (slF (f i 0)) ∧ Ints (vN f i) (slF (f i 0))
theorem IsV.le1 {T : TypeId} {s n k : Nat} {f : Nat → Nat → AV} (h : IsV s n f) (hn : n = k) : Le1 T (.sl s n f) (.sl 1 k fun i _ => .sl 1 (vN f i) fun j _ => .int .i64 (vII f i j)) := by
  obtain ⟨rfl, h⟩ := h
  refine Le1.sl hn fun i j hi hj => ?_
  have : j = 0 := by omega
  subst this
  rw [(h i hi).1]
  refine Le1.sl rfl fun a b ha hb => ?_
  have : b = 0 := by omega
  subst this
  rw [(h i hi).2 a ha]
  exact Le1.refl
theorem isV_mk {n : Nat} {m : Nat → Nat} {g : Nat → Nat → Int} : IsV 1 n (fun i _ => .sl 1 (m i) fun j _ => .int .i64 (g i j)) := ⟨rfl, fun _ _ => ⟨rfl, fun _ _ => rfl⟩⟩

theorem badS_lt {x : Int} (h : decide (x < 0) = true) : badS x = true := by rw [badS, h]; rfl
theorem badS_gt {x : Int} (h : decide (65536 < x) = true) : badS x = true := by rw [badS, h, Bool.or_true]
theorem badS_no {x : Int} (h1 : decide (x < 0) = false) (h2 : decide (65536 < x) = false) : badS x = false := by rw [badS, h1, h2]; rfl
/-- A row of links: 'k' more from 'j', the sum so far. -/
def linkE (lk : Nat → Nat → Int) (i : Nat) : Nat → Nat → Int → Int
  | 0, _, s => if 65536 < s then 16 else 0
  | k + 1, j, s => if badS (lk i j) = true then 3 else if ¬ lk i j = lk j i ∨ (i = j ∧ ¬ lk i j = 0) then 2 else linkE lk i k (j + 1) (wr (s + lk i j))
def nodeE (n : Nat) (g am : Nat → Int) (lk : Nat → Nat → Int) (i : Nat) : Int :=
  if badS (g i) = true ∨ badS (am i) = true then 3 else linkE lk i n 0 (am i)
def nodesE (n : Nat) (g am : Nat → Int) (lk : Nat → Nat → Int) : Nat → Nat → Int
  | 0, _ => 0
  | k + 1, i => if nodeE n g am lk i = 0 then nodesE n g am lk k (i + 1) else nodeE n g am lk i
def lensB (rl : Nat → Nat) (n : Nat) : Nat → Nat → Bool
  | 0, _ => true
  | k + 1, i => decide (rl i = n) && lensB rl n k (i + 1)
theorem lensB_all {rl : Nat → Nat} {n : Nat} : ∀ {k i : Nat}, lensB rl n k i = true → ∀ j, i ≤ j → j < i + k → rl j = n
  | 0, _, _, _, h1, h2 => by omega
  | k + 1, i, h, j, h1, h2 => by
    simp only [lensB, Bool.and_eq_true, decide_eq_true_eq] at h
    by_cases hj : j = i
    · rw [hj]; exact h.1
    · exact lensB_all h.2 j (by omega) (by omega)
/-- The check of a configuration: the number of its first error. -/
def hchk (n na nl : Nat) (g am : Nat → Int) (rl : Nat → Nat) (lk : Nat → Nat → Int) : Int :=
  if n = 0 then 11 else if 8 < n then 4 else if ¬ na = n ∨ ¬ nl = n then 11 else if lensB rl n n 0 = true then nodesE n g am lk n 0 else 11

theorem linkE_bad {lk : Nat → Nat → Int} {i n j : Nat} {s : Int} (hj : j < n) (h : badS (lk i j) = true) : linkE lk i (n - j) j s = 3 := by
  obtain ⟨k, hk⟩ : ∃ k, n - j = k + 1 := ⟨n - j - 1, by omega⟩
  rw [hk, linkE, if_pos h]
theorem linkE_form {lk : Nat → Nat → Int} {i n j : Nat} {s : Int} (hj : j < n) (h1 : badS (lk i j) = false) (h : ¬ lk i j = lk j i ∨ (i = j ∧ ¬ lk i j = 0)) : linkE lk i (n - j) j s = 2 := by
  obtain ⟨k, hk⟩ : ∃ k, n - j = k + 1 := ⟨n - j - 1, by omega⟩
  rw [hk, linkE, if_neg (by rw [h1]; decide), if_pos h]
theorem linkE_next {lk : Nat → Nat → Int} {i n j : Nat} {s : Int} (hj : j < n) (h1 : badS (lk i j) = false) (h : ¬ (¬ lk i j = lk j i ∨ (i = j ∧ ¬ lk i j = 0))) : linkE lk i (n - j) j s = linkE lk i (n - (j + 1)) (j + 1) (wr (s + lk i j)) := by
  obtain ⟨k, hk⟩ : ∃ k, n - j = k + 1 := ⟨n - j - 1, by omega⟩
  rw [hk, linkE, if_neg (by rw [h1]; decide), if_neg h, show n - (j + 1) = k by omega]
theorem nodesE_bad {n : Nat} {g am : Nat → Int} {lk : Nat → Nat → Int} {i : Nat} (hi : i < n) (h : ¬ nodeE n g am lk i = 0) : nodesE n g am lk (n - i) i = nodeE n g am lk i := by
  obtain ⟨k, hk⟩ : ∃ k, n - i = k + 1 := ⟨n - i - 1, by omega⟩
  rw [hk, nodesE, if_neg h]
theorem nodesE_next {n : Nat} {g am : Nat → Int} {lk : Nat → Nat → Int} {i : Nat} (hi : i < n) (h : nodeE n g am lk i = 0) : nodesE n g am lk (n - i) i = nodesE n g am lk (n - (i + 1)) (i + 1) := by
  obtain ⟨k, hk⟩ : ∃ k, n - i = k + 1 := ⟨n - i - 1, by omega⟩
  rw [hk, nodesE, if_pos h, show n - (i + 1) = k by omega]
theorem lensB_bad {rl : Nat → Nat} {n i : Nat} (hi : i < n) (h : ¬ rl i = n) : lensB rl n (n - i) i = false := by
  obtain ⟨k, hk⟩ : ∃ k, n - i = k + 1 := ⟨n - i - 1, by omega⟩
  rw [hk, lensB, decide_eq_false h]; rfl
theorem lensB_next {rl : Nat → Nat} {n i : Nat} (hi : i < n) (h : rl i = n) : lensB rl n (n - i) i = lensB rl n (n - (i + 1)) (i + 1) := by
  obtain ⟨k, hk⟩ : ∃ k, n - i = k + 1 := ⟨n - i - 1, by omega⟩
  rw [hk, lensB, decide_eq_true h, Bool.true_and, show n - (i + 1) = k by omega]

/-- A configuration's cells. -/
def cfgL (n na nl : Nat) (g am : Nat → Int) (rl : Nat → Nat) (lk : Nat → Nat → Int) : List AV :=
  [.sl 1 n fun i _ => .int .i64 (g i), .sl 1 na fun i _ => .int .i64 (am i), .sl 1 nl fun i _ => .sl 1 (rl i) fun j _ => .int .i64 (lk i j)]

def sNode : Sp
  | [.agg [.sl s1 n gf, .sl s2 na af, .sl s3 nl lf], .int .i64 i] =>
    .pre ((IsI s1 n gf ∧ IsI s2 na af ∧ IsV s3 nl lf) ∧ (n = na ∧ n = nl ∧ n ≤ 8 ∧ ∀ k, k < n → vN lf k = n) ∧ 0 ≤ i ∧ i < n) (.int .i64 (nodeE n (vI gf) (vI af) (vII lf) i.toNat))
  | _ => .no
theorem okNode : EntOK Try.prog TE 36 sNode := by
  refine ⟨callable_of Try.func36 (by kernel_rfl), fun args => ?_⟩
  unfold sNode
  split
  · rename_i s1 n gf s2 na af s3 nl lf iz
    rintro ⟨⟨h1, h2, h3⟩, ⟨e1, e2, hn, hrl⟩, hi0, hi⟩
    subst e1 e2
    obtain ⟨i, rfl⟩ : ∃ i : Nat, iz = i := ⟨iz.toNat, by omega⟩
    have hi : i < n := by omega
    refine FnOK.args ?_ (m := [.agg (cfgL n n n (vI gf) (vI af) (vN lf) (vII lf)), .int .i64 i]) ⟨.aggL ⟨h1.le1 rfl, h2.le1 rfl, h3.le1 rfl, trivial⟩, .refl, trivial⟩
    generalize vI gf = g
    generalize vI af = am
    generalize vII lf = lk
    generalize vN lf = rl at hrl
    have hb : (0 : Int) ≤ (i : Int) ∧ (i : Int) < (n : Int) := ⟨by omega, by omega⟩
    show FnOK Try.prog TE _ [.agg [.sl 1 n fun i _ => .int .i64 (g i), .sl 1 n fun i _ => .int .i64 (am i), .sl 1 n fun i _ => .sl 1 (rl i) fun j _ => .int .i64 (lk i j)], .int .i64 i] (.int .i64 (nodeE n g am lk i))
    have bad : badS (g i) = true ∨ badS (am i) = true → nodeE n g am lk i = 3 := fun h => by rw [nodeE, if_pos h]
    refine fn_ofF tabsOK specOK_nil mixed Try.func36 (by kernel_rfl) ?_
    refine Chk.mk hb ?_
    refine Brn.mk (fun q => AVle.int (bad (.inl (badS_lt q))).symm) (fun q1 => ?_)
    refine Chk.mk hb ?_
    refine Brn.mk (fun q => AVle.int (bad (.inl (badS_gt q))).symm) (fun q2 => ?_)
    refine Chk.mk hb ?_
    refine Brn.mk (fun q => AVle.int (bad (.inr (badS_lt q))).symm) (fun q3 => ?_)
    refine Chk.mk hb ?_
    refine Brn.mk (fun q => AVle.int (bad (.inr (badS_gt q))).symm) (fun q4 => ?_)
    refine Chk.mk hb ?_
    have hne : nodeE n g am lk i = linkE lk i n 0 (am i) := by
      rw [nodeE, if_neg]
      rintro (h | h)
      · rw [show badS (g i) = false from badS_no q1 q2] at h; cases h
      · rw [show badS (am i) = false from badS_no q3 q4] at h; cases h
    rw [hne]
    generalize hr : linkE lk i n 0 (am i) = r
    refine LoopOK.mk ⟨{ x : Nat × Int // x.1 ≤ n ∧ linkE lk i (n - x.1) x.1 x.2 = r }, fun x => mkSt [(1, .int .i64 i), (2, .loc 2 0), (5, .int .i64 x.1.2), (6, .int .i64 x.1.1)]
      [(2, ⟨47, 3, 1, fun _ j => nth (cfgL n n n g am rl lk) j, 0, true⟩)], fun x => n - x.1.1, ⟨⟨(0, am i), by omega, hr⟩, ?_⟩, ?_⟩
    · refine wk_of [(2, some 2)] rfl ⟨⟨rfl, rfl⟩, rfl, ⟨rfl, rfl⟩, ⟨rfl, rfl⟩, trivial⟩ ⟨RowLe.fin rfl rfl rfl rfl rfl ?_, trivial⟩
      (repeat' first | exact trivial | exact ⟨by kernel_rfl, by kernel_rfl⟩ | exact Or.inr (by kernel_rfl) | (show _ = _; kernel_rfl) | refine ⟨?_, ?_⟩)
    · rintro ⟨⟨j, s⟩, hj, hs⟩
      have hs : linkE lk i (n - j) j s = r := hs
      refine Brn.mk (fun h => ?_) (fun h => ?_)
      · have h : (j : Int) < n := of_decide_eq_true h
        have hjn : j < n := by omega
        have hri := hrl i hi
        have hrj := hrl j hjn
        have hbj : (0 : Int) ≤ (j : Int) ∧ (j : Int) < (n : Int) := ⟨by omega, h⟩
        have hbj' : (0 : Int) ≤ (j : Int) ∧ (j : Int) < (rl i : Int) := ⟨by omega, by omega⟩
        have hbi' : (0 : Int) ≤ (i : Int) ∧ (i : Int) < (rl j : Int) := ⟨by omega, by omega⟩
        refine Chk.mk hb (Chk.mk hbj' ?_)
        refine Brn.mk (fun q => AVle.int ?_) (fun p1 => ?_)
        · exact (linkE_bad hjn (badS_lt q)).symm.trans hs
        refine Brn.mk (fun q => AVle.int ?_) (fun p2 => ?_)
        · exact (linkE_bad hjn (badS_gt q)).symm.trans hs
        have hbs : badS (lk i j) = false := badS_no p1 p2
        refine Chk.mk hbj (Chk.mk hbi' ?_)
        refine Brn.mk (fun q => AVle.int ?_) (fun p3 => ?_)
        · exact (linkE_form hjn hbs (.inl (by simpa using q))).symm.trans hs
        have p3 : lk i j = lk j i := by simpa using p3
        have fin : ¬ (i = j ∧ ¬ lk i j = 0) → ¬ (¬ lk i j = lk j i ∨ (i = j ∧ ¬ lk i j = 0)) := fun h => by rintro (h2 | h2); exact h2 p3; exact h h2
        refine Brn.mk (fun p4 => ?_) (fun p4 => ?_)
        · have p4 : (i : Int) = j := of_decide_eq_true p4
          refine Brn.mk (fun q => AVle.int ?_) (fun p5 => ?_)
          · exact (linkE_form hjn hbs (.inr ⟨by omega, by simpa using q⟩)).symm.trans hs
          · have p5 : lk i j = 0 := by simpa using p5
            refine ⟨⟨(j + 1, wr (s + lk i j)), by show j + 1 ≤ n; omega, (linkE_next hjn hbs (fin (fun h => h.2 p5))).symm.trans hs⟩, by show n - (j + 1) < n - j; omega, ?_⟩
            refine wk_of [(2, some 2)] rfl ⟨⟨rfl, rfl⟩, rfl, ⟨rfl, rfl⟩, ⟨wrS (i := j) (by omega), rfl⟩, trivial⟩ ⟨RowLe.fin rfl rfl rfl rfl rfl ?_, trivial⟩
            (repeat' first | exact trivial | exact ⟨by kernel_rfl, by kernel_rfl⟩ | exact Or.inr (by kernel_rfl) | (show _ = _; kernel_rfl) | refine ⟨?_, ?_⟩)
        · have p4 : ¬ (i : Int) = j := of_decide_eq_false p4
          refine ⟨⟨(j + 1, wr (s + lk i j)), by show j + 1 ≤ n; omega, (linkE_next hjn hbs (fin (fun h => p4 (by omega)))).symm.trans hs⟩, by show n - (j + 1) < n - j; omega, ?_⟩
          refine wk_of [(2, some 2)] rfl ⟨⟨rfl, rfl⟩, rfl, ⟨rfl, rfl⟩, ⟨wrS (i := j) (by omega), rfl⟩, trivial⟩ ⟨RowLe.fin rfl rfl rfl rfl rfl ?_, trivial⟩
          (repeat' first | exact trivial | exact ⟨by kernel_rfl, by kernel_rfl⟩ | exact Or.inr (by kernel_rfl) | (show _ = _; kernel_rfl) | refine ⟨?_, ?_⟩)
      · have h : ¬ (j : Int) < n := of_decide_eq_false h
        have hj : j ≤ n := hj
        rw [show n - j = 0 by omega, linkE] at hs
        refine Brn.mk (fun q => AVle.int ?_) (fun q => AVle.int ?_)
        · rw [if_pos (of_decide_eq_true q)] at hs; exact hs
        · rw [if_neg (of_decide_eq_false q)] at hs; exact hs
  · trivial
end
end Go.Proofs.Ytjmidgfkocmihaa.Img
