/- Chapter 37: the specification's filter, fed and at rest. Conditions: none. -/
import Derived.Test.YtpndkmppncpkgaaPrf10
namespace Go.Proofs.Ytpndkmppncpkgaa.Img
open Go Go.Proofs.Ytpndkmppncpkgaa.AI Go.Proofs
noncomputable section
set_option maxRecDepth 100000
def sRPush : Sp
  | [.agg [.int .i64 a, .int .i64 b, .sl s n f, .sl s' m g, .int .i64 p, .int .i64 q, .int .i64 r, .int .i64 _], .int .i64 u] => .pre (FOK s n f s' m g) (.tup [.agg (pushL a b n m (vI f) (vI g) p q r u), .int .i64 (fchk a b n m (vI f) (vI g))])
  | _ => .no
theorem shf_at (x : Nat → Int) (k : Nat) (u : Int) {i : Nat} {F : Nat → Nat → AV} {G : Nat → Nat → AV} (hF : ∀ i, i < k → F i 0 = .int .i64 (x (1 + i))) (hG : G 0 0 = .int .i64 u) (hi : i < k + 1) : appF k F G i 0 = .int .i64 (shf x (k + 1) u i) := by
  unfold appF shf
  cases hb : Nat.blt i k with
  | true =>
    have h : i < k := Nat.blt_eq ▸ hb
    show F i 0 = _
    rw [hF i h, if_pos (by omega), Nat.add_comm]
  | false =>
    have h : ¬ i < k := fun h => by rw [show Nat.blt i k = true from Nat.blt_eq ▸ h] at hb; cases hb
    have : i = k := by omega
    subst this
    show G (i - i) 0 = _
    rw [Nat.sub_self, hG, if_neg (by omega)]
theorem appF0 {E F : Nat → Nat → AV} : appF 0 E F = F := by funext i j; rfl
theorem shf2 (x : Nat → Int) (k : Nat) (u : Int) {E F G : Nat → Nat → AV} (hF : ∀ i, i < k → F i 0 = .int .i64 (x (1 + i))) (hG : G 0 0 = .int .i64 u) {i : Nat} (hi : i < 0 + k + 1) : appF (0 + k) (appF 0 E F) G i 0 = .int .i64 (shf x (k + 1) u i) := by
  rw [Nat.zero_add, appF0]
  exact shf_at x k u hF hG (by omega)
theorem isI_of {n : Nat} {F : Nat → Nat → AV} {x : Nat → Int} (h : ∀ i, i < n → F i 0 = .int .i64 (x i)) : IsI 1 n F := ⟨rfl, fun i hi => by rw [vI, h i hi]; rfl⟩
theorem sumW_congr {f g : Nat → Int} : ∀ {n : Nat}, (∀ i, i < n → f i = g i) → sumW f n = sumW g n
  | 0, _ => rfl
  | n + 1, h => by rw [sumW, sumW, sumW_congr (n := n) (fun i hi => h i (by omega)), h n (by omega)]
theorem sumW_of {n n' : Nat} {F : Nat → Nat → AV} {x : Nat → Int} (hn : n' = n) (h : ∀ i, i < n' → F i 0 = .int .i64 (x i)) : sumW (vI F) n' = sumW x n := by
  subst hn
  exact sumW_congr fun i hi => by rw [vI, h i hi]; rfl
/-- A list without its head, with one more. -/
def lstF (k : Nat) (x : Nat → Int) (v : Int) : Nat → Nat → AV := appF (0 + k) (appF 0 (fun i j => pureC (fillF (fun i => i * 1) [] (fun q => nth [.int .i64 0] (q % 1)) (i * 1 + j))) (fun i _ => .int .i64 (x (1 + i)))) (fun i j => pureC (fillF (fun i => i * 1) [(0, .int .i64 v)] (fun q => nth [.int .i64 0] (q % 1)) (i * 1 + j)))
theorem lstF_at (x : Nat → Int) (k : Nat) (v : Int) {i : Nat} (hi : i < 0 + k + 1) : lstF k x v i 0 = .int .i64 (shf x (k + 1) v i) := shf2 x k v (fun _ _ => rfl) rfl hi
theorem lstF_sum (x : Nat → Int) (k : Nat) (v : Int) : sumW (vI (lstF k x v)) (0 + k + 1) = sumW (shf x (k + 1) v) (k + 1) := sumW_of (by omega) fun _ hi => lstF_at x k v hi
set_option maxHeartbeats 4000000 in
theorem ok29 : EntOK Try.prog TE 29 sRPush := by
  refine ⟨callable_of Try.func29 (by kernel_rfl), fun args => ?_⟩
  unfold sRPush
  split
  · rename_i a b s n f s' m g p q r t u
    rintro ⟨hf, hg, hn, hm⟩
    refine FnOK.args (m := [.agg [.int .i64 a, .int .i64 b, .sl 1 n fun i _ => .int .i64 (vI f i), .sl 1 m fun i _ => .int .i64 (vI g i), .int .i64 p, .int .i64 q, .int .i64 r, .int .i64 t], .int .i64 u]) ?_ ⟨.aggL ⟨.refl, .refl, hf.le1 rfl, hg.le1 rfl, .refl, .refl, .refl, .refl, trivial⟩, fun _ _ _ h => h, trivial⟩
    generalize vI f = x
    generalize vI g = y
    by_cases h : fchk a b n m x y = 0
    · obtain ⟨⟨hb1, hb2⟩, hl1, hl2, _⟩ := fchk_zero h
      obtain ⟨k, rfl⟩ : ∃ k, n = k + 1 := ⟨n - 1, by omega⟩
      obtain ⟨l, rfl⟩ : ∃ k, m = k + 1 := ⟨m - 1, by omega⟩
      refine fn_ofF tabsOK (specOK_cons ok16 (specOK_cons ok47 (specOK_cons ok48 specOK_nil))) mixed Try.func29 (by kernel_rfl) ?_
      refine Chk.mk ⟨isI_mk, isI_mk, hn, hm⟩ ?_
      refine Brn.mk (fun q => absurd h (ndT q)) (fun _ => ?_)
      refine Chk.mk ⟨by omega, by omega⟩ ?_
      refine Chk.mk ⟨(show (0 + k) * 8 ≤ 140737488355328 by omega), (show 0 + k ≤ 9223372036854775807 by omega)⟩ ?_
      refine Chk.mk ⟨(show (0 + k + 1) * 8 ≤ 140737488355328 by omega), (show 0 + k + 1 ≤ 9223372036854775807 by omega)⟩ ?_
      refine Chk.mk ⟨by omega, by omega⟩ ?_
      refine Chk.mk ⟨(show (0 + l) * 8 ≤ 140737488355328 by omega), (show 0 + l ≤ 9223372036854775807 by omega)⟩ ?_
      refine Chk.mk ⟨isI_of (F := lstF k x (uC u)) (fun _ hi => lstF_at x k (uC u) hi), (show 0 + k + 1 ≤ 1000 by omega)⟩ ?_
      refine Chk.mk ⟨(show (0 + l + 1) * 8 ≤ 140737488355328 by omega), (show 0 + l + 1 ≤ 9223372036854775807 by omega)⟩ ?_
      refine Chk.mk (by kernel_rfl) ?_
      refine Chk.mk ⟨isI_of (F := lstF l y (sumW (vI (lstF k x (uC u))) (0 + k + 1))) (fun _ hi => lstF_at y l _ hi), (show 0 + l + 1 ≤ 1000 by omega)⟩ ?_
      refine Chk.mk (by kernel_rfl) ?_
      have S1 : sumW (vI (lstF k x (uC u))) (0 + k + 1) = sm1 (k + 1) x u := lstF_sum x k (uC u)
      have V : sumW (vI (lstF l y (sumW (vI (lstF k x (uC u))) (0 + k + 1)))) (0 + l + 1) = vel (k + 1) (l + 1) x y u := by rw [lstF_sum, S1]; rfl
      exact AVle.tup2 (fil_le h rfl rfl (by omega) (by omega) (fun _ hi => lstF_at x k (uC u) hi) (fun _ hi => by rw [← S1]; exact lstF_at y l _ hi) (congrArg (pos p) V) V (congrArg (fun v => dif v q) V) (congrArg (fun v => dif (dif v q) r) V)) (.int h.symm)
    · refine fn_ofF tabsOK (specOK_cons ok16 (specOK_cons ok47 (specOK_cons ok48 specOK_nil))) mixed Try.func29 (by kernel_rfl) ?_
      refine Chk.mk ⟨isI_mk, isI_mk, hn, hm⟩ ?_
      refine Brn.mk (fun _ => ?_) (fun q => absurd (ndF q) h)
      exact AVle.tup2 (fil_zero h) (.int rfl)
  · trivial
/-- Two lists, one behind the other. -/
def catF (n : Nat) (x y : Nat → Int) (i : Nat) : Int := if i < n then x i else y (i - n)
theorem anyP_app {p q : Nat → Bool} (n : Nat) : ∀ (m i : Nat), (∀ j, p (n + j) = q j) → anyP p m (n + i) = anyP q m i
  | 0, _, _ => rfl
  | m + 1, i, h => by rw [anyP, anyP, h, show n + i + 1 = n + (i + 1) by omega, anyP_app n m (i + 1) h]
theorem anyP_split {p : Nat → Bool} : ∀ (n m i : Nat), anyP p (n + m) i = (anyP p n i || anyP p m (i + n))
  | 0, m, i => by rw [Nat.zero_add, Nat.add_zero, anyP, Bool.false_or]
  | n + 1, m, i => by
    rw [show n + 1 + m = (n + m) + 1 by omega, anyP, anyP, anyP_split n m (i + 1), Bool.or_assoc, show i + 1 + n = i + (n + 1) by omega]
theorem anyP_congr' {p q : Nat → Bool} : ∀ (n i : Nat), (∀ j, i ≤ j → j < i + n → p j = q j) → anyP p n i = anyP q n i
  | 0, _, _ => rfl
  | n + 1, i, h => by rw [anyP, anyP, h i (by omega) (by omega), anyP_congr' n (i + 1) (fun j h1 h2 => h j (by omega) (by omega))]
theorem anyP_cat (n m : Nat) (x y : Nat → Int) : anyP (fun i => !decide (catF n x y i = 0)) (n + m) 0 = (anyP (fun i => !decide (x i = 0)) n 0 || anyP (fun i => !decide (y i = 0)) m 0) := by
  rw [anyP_split]
  congr 1
  · exact anyP_congr' n 0 fun j _ h => by simp only [catF, if_pos (show j < n by omega)]
  · rw [Nat.zero_add]
    exact anyP_app (p := fun i => !decide (catF n x y i = 0)) (q := fun i => !decide (y i = 0)) n m 0 fun j => by simp only [catF, if_neg (show ¬ n + j < n by omega), Nat.add_sub_cancel_left]
theorem ok32 : EntOK Try.prog TE 32 sRest := by
  refine ⟨callable_of Try.func32 (by kernel_rfl), fun args => ?_⟩
  unfold sRest
  split
  · rename_i a b s n f s' m g p q r t
    rintro ⟨hf, hg, hn, hm⟩
    refine FnOK.args (m := [.agg [.int .i64 a, .int .i64 b, .sl 1 n fun i _ => .int .i64 (vI f i), .sl 1 m fun i _ => .int .i64 (vI g i), .int .i64 p, .int .i64 q, .int .i64 r, .int .i64 t]]) ?_ ⟨.aggL ⟨.refl, .refl, hf.le1 rfl, hg.le1 rfl, .refl, .refl, .refl, .refl, trivial⟩, trivial⟩
    generalize vI f = x
    generalize vI g = y
    refine fn_ofF tabsOK (specOK_cons ok47 specOK_nil) mixed Try.func32 (by kernel_rfl) ?_
    refine Chk.mk ⟨isI_mk, isI_mk, hn, hm⟩ ?_
    refine Brn.mk (fun h1 => AVle.bit ?_) (fun h1 => ?_)
    · rw [restV, decide_eq_false (show ¬ fchk a b n m x y = 0 from ndT h1)]; rfl
    have h1 : decide (fchk a b n m x y = 0) = true := decide_eq_true (show fchk a b n m x y = 0 from ndF h1)
    refine Brn.mk (fun h2 => AVle.bit ?_) (fun h2 => ?_)
    · rw [restV, decide_eq_false (ndT h2), Bool.and_false, Bool.and_false, Bool.and_false]
    have h2 : decide (q = 0) = true := decide_eq_true (ndF h2)
    have ev : restV a b n m x y q = !anyP (fun i => !decide (catF n x y i = 0)) (n + m) 0 := by
      rw [restV, h1, h2, anyP_cat]; cases anyP (fun i => !decide (x i = 0)) n 0 <;> cases anyP (fun i => !decide (y i = 0)) m 0 <;> rfl
    refine Chk.mk ⟨(show (0 + n) * 8 ≤ 140737488355328 by omega), (show 0 + n ≤ 9223372036854775807 by omega)⟩ ?_
    refine Chk.mk ⟨(show (0 + n + m) * 8 ≤ 140737488355328 by omega), (show 0 + n + m ≤ 9223372036854775807 by omega)⟩ ?_
    refine LoopOK.mk ⟨{ i : Nat // i ≤ n + m ∧ anyP (fun i => !decide (catF n x y i = 0)) (n + m - i) i = anyP (fun i => !decide (catF n x y i = 0)) (n + m) 0 }, fun i => mkSt [(20, .own 100 (0 + n + m)), (21, .int .i64 (0 + n + m : Nat)), (22, .int .i64 i.1)]
      [(100, ⟨3, 1, 0 + n + m, fun i _ => .int .i64 (catF n x y i), 1, false⟩)], fun i => n + m - i.1, ⟨⟨0, by omega, rfl⟩, ?_⟩, ?_⟩
    · refine wk_of [(100, some 20)] rfl ⟨rfl, ⟨rfl, rfl⟩, ⟨rfl, rfl⟩, trivial⟩ ⟨⟨rfl, rfl, rfl, rfl, rfl, fun i j hi hj => Or.inr ?_⟩, trivial⟩
      have hj : j < 1 := hj
      have : j = 0 := by omega
      subst this
      show AV.int .i64 (catF n x y i) = appF (0 + n) (appF 0 _ fun i _ => .int .i64 (x i)) (fun i _ => .int .i64 (y i)) i 0
      rw [Nat.zero_add, appF0]
      unfold appF catF
      cases hb : Nat.blt i n with
      | true => rw [if_pos (Nat.blt_eq ▸ hb)]
      | false => rw [if_neg (fun h => by rw [show Nat.blt i n = true from Nat.blt_eq ▸ h] at hb; cases hb)]
    rintro ⟨i, hi, he⟩
    refine Brn.mk (fun h => ?_) (fun h => ?_)
    · have h : (i : Int) < (0 + n + m : Nat) := of_decide_eq_true h
      refine Chk.mk ⟨Int.natCast_nonneg i, h⟩ ?_
      refine Brn.mk (fun h2 => AVle.bit ?_) (fun h2 => ?_)
      · have := (anyP_hit (p := fun i => !decide (catF n x y i = 0)) (i := i) (n := n + m) (by omega) h2).symm.trans he
        rw [ev, ← this]; rfl
      · refine ⟨⟨i + 1, by omega, (anyP_miss (p := fun i => !decide (catF n x y i = 0)) (i := i) (by omega) h2).symm.trans he⟩, by show n + m - (i + 1) < n + m - i; omega, ?_⟩
        exact wk_of [(100, some 100)] rfl ⟨rfl, ⟨rfl, rfl⟩, ⟨wrS (i := i) (by omega), rfl⟩, trivial⟩ ⟨⟨rfl, rfl, rfl, rfl, rfl, fun _ _ _ _ => Or.inr rfl⟩, trivial⟩
    · have h : ¬ (i : Int) < (0 + n + m : Nat) := of_decide_eq_false h
      have hin : i = n + m := by omega
      rw [hin, Nat.sub_self] at he
      refine AVle.bit ?_
      rw [ev, ← he]; rfl
  · trivial
theorem openFil {l : List AV} {d : Nat} (h : Arg E0 (d + 5) 50 l) : ∃ a b n m f g p q r t, l = [.int .i64 a, .int .i64 b, .sl 1 n f, .sl 1 m g, .int .i64 p, .int .i64 q, .int .i64 r, .int .i64 t] ∧ Ints n f ∧ Ints m g := by
  obtain ⟨_, _, rfl, h1, _, _, rfl, h2, _, _, rfl, h3, _, _, rfl, h4, _, _, rfl, h5, rfl⟩ := h
  obtain ⟨a, rfl, _⟩ := openI h1
  obtain ⟨b, rfl, _⟩ := openI h2
  obtain ⟨n, f, rfl, _, hf⟩ := h3
  obtain ⟨m, g, rfl, _, hg⟩ := h4
  obtain ⟨_, _, rfl, p1, _, _, rfl, p2, _, _, rfl, p3, _, _, rfl, p4, rfl⟩ := h5
  obtain ⟨p, rfl, _⟩ := openI p1
  obtain ⟨q, rfl, _⟩ := openI p2
  obtain ⟨r, rfl, _⟩ := openI p3
  obtain ⟨t, rfl, _⟩ := openI p4
  have ints : ∀ {k : Nat} {F : Nat → Nat → AV}, (∀ i, i < k → Arg E0 (d + 3) 3 (takeF (F i) 0 (szOf E0 3))) → Ints k F := fun hF i hi => by
    obtain ⟨z, hz, _⟩ := openI (hF i hi)
    have : [_] = [_] := hz
    injection this with this
    rw [vI, this]; rfl
  exact ⟨a, b, n, m, f, g, p, q, r, t, rfl, ints hf, ints hg⟩
end
end Go.Proofs.Ytpndkmppncpkgaa.Img
