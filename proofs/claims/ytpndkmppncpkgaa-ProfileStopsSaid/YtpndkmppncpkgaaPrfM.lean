/- Chapter 37: the plain law of box filters: sums, weights, differences. Conditions: none. -/
namespace Go.Proofs.Ytpndkmppncpkgaa.Img
def sumN (g : Nat → Int) : Nat → Int
  | 0 => 0
  | n + 1 => sumN g n + g n
theorem sumN_congr {g h : Nat → Int} : ∀ {n : Nat}, (∀ i, i < n → g i = h i) → sumN g n = sumN h n
  | 0, _ => rfl
  | n + 1, e => by simp only [sumN]; rw [sumN_congr (n := n) (fun i hi => e i (by omega)), e n (by omega)]
theorem sumN_add (g h : Nat → Int) : ∀ n : Nat, sumN (fun i => g i + h i) n = sumN g n + sumN h n
  | 0 => rfl
  | n + 1 => by simp only [sumN]; rw [sumN_add g h n]; omega
theorem sumN_sub (g h : Nat → Int) : ∀ n : Nat, sumN (fun i => g i - h i) n = sumN g n - sumN h n
  | 0 => rfl
  | n + 1 => by simp only [sumN]; rw [sumN_sub g h n]; omega
theorem sumN_shift (g : Nat → Int) (m : Nat) : ∀ n : Nat, sumN g (m + n) = sumN g m + sumN (fun i => g (m + i)) n
  | 0 => by simp [sumN]
  | n + 1 => by
    show sumN g (m + n) + g (m + n) = _
    simp only [sumN]; rw [sumN_shift g m n]; omega
theorem sumN_zero {g : Nat → Int} {n : Nat} (h : ∀ i, i < n → g i = 0) : sumN g n = 0 := by
  induction n with
  | zero => rfl
  | succ n ih => simp only [sumN]; rw [ih (fun i hi => h i (by omega)), h n (by omega)]; rfl
theorem sumN_const (c : Int) : ∀ n : Nat, sumN (fun _ => c) n = n * c
  | 0 => by simp [sumN]
  | n + 1 => by simp only [sumN]; rw [sumN_const c n, Int.natCast_add, Int.add_mul]; simp
theorem sumN_le {g : Nat → Int} {B : Int} : ∀ {n : Nat}, (∀ i, i < n → g i ≤ B) → sumN g n ≤ n * B
  | 0, _ => by simp [sumN]
  | n + 1, h => by
    have := sumN_le (n := n) (fun i hi => h i (by omega))
    have := h n (by omega)
    simp only [sumN]; rw [Int.natCast_add, Int.add_mul]; omega
theorem sumN_nonneg {g : Nat → Int} {n : Nat} (h : ∀ i, i < n → 0 ≤ g i) : 0 ≤ sumN g n := by
  induction n with
  | zero => exact Int.le_refl _
  | succ n ih =>
    have := ih (fun i hi => h i (by omega))
    have := h n (by omega)
    simp only [sumN]; omega
theorem sumN_swap (f : Nat → Nat → Int) (m : Nat) : ∀ n : Nat, sumN (fun a => sumN (fun b => f a b) m) n = sumN (fun b => sumN (fun a => f a b) n) m
  | 0 => by simp only [sumN]; exact (sumN_zero (fun _ _ => rfl)).symm
  | n + 1 => by
    simp only [sumN]
    rw [sumN_swap f m n, ← sumN_add]
/-- The weight of a sum of two places. -/
def wgt (m1 m2 s : Nat) : Nat := min (min (min (s + 1) m1) m2) (m1 + m2 - 1 - s)
theorem wgt_succ (m1 m2 s : Nat) : wgt (m1 + 1) m2 s = wgt m1 m2 s + (if m1 ≤ s ∧ s < m1 + m2 then 1 else 0) := by
  unfold wgt
  split <;> omega
theorem sumN_win (g : Nat → Int) (m1 m2 r : Nat) : sumN (fun s => ((if m1 ≤ s ∧ s < m1 + m2 then 1 else 0 : Nat) : Int) * g s) (m1 + m2 + r) = sumN (fun b => g (m1 + b)) m2 := by
  rw [sumN_shift, sumN_shift, sumN_zero (n := m1) (fun i hi => by rw [if_neg (by omega)]; simp), sumN_zero (n := r) (fun i hi => by rw [if_neg (by omega)]; simp), Int.zero_add, Int.add_zero]
  exact sumN_congr fun i hi => by rw [if_pos (by omega)]; simp
theorem wsum_aux (g : Nat → Int) (m2 : Nat) : ∀ (m1 N : Nat), m1 + m2 ≤ N + 1 → sumN (fun s => (wgt m1 m2 s : Int) * g s) N = sumN (fun a => sumN (fun b => g (a + b)) m2) m1
  | 0, N, _ => by
    refine sumN_zero fun i _ => ?_
    rw [show wgt 0 m2 i = 0 by unfold wgt; omega]; simp
  | m1 + 1, N, h => by
    obtain ⟨r, rfl⟩ : ∃ r, N = m1 + m2 + r := ⟨N - (m1 + m2), by omega⟩
    have e : sumN (fun s => (wgt (m1 + 1) m2 s : Int) * g s) (m1 + m2 + r) = sumN (fun s => (wgt m1 m2 s : Int) * g s + ((if m1 ≤ s ∧ s < m1 + m2 then 1 else 0 : Nat) : Int) * g s) (m1 + m2 + r) :=
      sumN_congr fun i _ => by rw [wgt_succ, Int.natCast_add, Int.add_mul]
    rw [e, sumN_add, wsum_aux g m2 m1 (m1 + m2 + r) (by omega), sumN_win]
    rfl
/-- A window of n places that ends at j. -/
def bx (h : Int → Int) (n : Nat) (j : Int) : Int := sumN (fun a => h (j - a)) n
theorem bx_congr {f g : Int → Int} (h : ∀ x, f x = g x) (n : Nat) (j : Int) : bx f n j = bx g n j := sumN_congr fun _ _ => h _
theorem bx_tel (h : Int → Int) : ∀ (n : Nat) (j : Int), bx h n j - bx h n (j - 1) = h j - h (j - n)
  | 0, j => by simp [bx, sumN]
  | n + 1, j => by
    have := bx_tel h n j
    unfold bx at this ⊢
    simp only [sumN]
    rw [show j - 1 - (n : Int) = j - ((n + 1 : Nat) : Int) by omega]
    omega
theorem bx_sub (f g : Int → Int) (n : Nat) (j : Int) : bx (fun x => f x - g x) n j = bx f n j - bx g n j := sumN_sub _ _ _
theorem bx_swap (f : Int → Int) (m n : Nat) (j : Int) : bx (bx f m) n j = bx (bx f n) m j := by
  unfold bx
  rw [sumN_swap]
  exact sumN_congr fun b _ => sumN_congr fun a _ => by rw [show j - (a : Int) - b = j - b - a by omega]
theorem bx_le {f : Int → Int} {B : Int} (h : ∀ x, f x ≤ B) (n : Nat) (j : Int) : bx f n j ≤ n * B := sumN_le fun _ _ => h _
theorem bx_nonneg {f : Int → Int} (h : ∀ x, 0 ≤ f x) (n : Nat) (j : Int) : 0 ≤ bx f n j := sumN_nonneg fun _ _ => h _
theorem bx_zero {f : Int → Int} {n : Nat} {j : Int} (h : ∀ x, j - n < x → x ≤ j → f x = 0) : bx f n j = 0 := sumN_zero fun i hi => h _ (by omega) (by omega)
theorem bx_const {f : Int → Int} {n : Nat} {j c : Int} (h : ∀ x, j - n < x → x ≤ j → f x = c) : bx f n j = n * c := by
  have : bx f n j = sumN (fun _ => c) n := sumN_congr fun i hi => h _ (by omega) (by omega)
  rw [this, sumN_const]
/-- The weighted sum, as the program forms it. -/
def wS (m1 m2 : Int) (f : Int → Int) (last : Int) (n : Nat) : Int := sumN (fun s => min (min (min ((s : Int) + 1) m1) m2) (m1 + m2 - 1 - s) * f (last - s)) n
theorem wS_eq {a b : Nat} (f : Int → Int) (last : Int) (ha : 1 ≤ a) (hb : 1 ≤ b) : wS a b f last (a + b - 1) = bx (bx f b) a last := by
  have h1 := wsum_aux (fun s => f (last - s)) b a (a + b - 1) (by omega)
  have h2 : bx (bx f b) a last = sumN (fun a => sumN (fun b => f (last - ((a + b : Nat) : Int))) b) a :=
    sumN_congr fun i _ => sumN_congr fun k _ => by rw [Int.natCast_add, ← Int.sub_sub]
  rw [h2, ← h1]
  refine sumN_congr fun s hs => ?_
  rw [show min (min (min ((s : Int) + 1) a) b) ((a : Int) + b - 1 - s) = (wgt a b s : Int) by unfold wgt; omega]
theorem wS_bound {m1 m2 : Int} {f : Int → Int} {last B : Int} (h1 : 1 ≤ m1 ∧ m1 ≤ 256) (h2 : 1 ≤ m2 ∧ m2 ≤ 256) (h0 : ∀ x, 0 ≤ f x) (hB : ∀ x, f x ≤ B) {n : Nat} (hn : (n : Int) ≤ m1 + m2 - 1) : 0 ≤ wS m1 m2 f last n ∧ wS m1 m2 f last n ≤ n * (256 * B) := by
  have hw : ∀ i : Nat, i < n → 0 ≤ min (min (min ((i : Int) + 1) m1) m2) (m1 + m2 - 1 - i) ∧ min (min (min ((i : Int) + 1) m1) m2) (m1 + m2 - 1 - i) ≤ 256 := fun i hi => by omega
  constructor
  · exact sumN_nonneg fun i hi => Int.mul_nonneg (hw i hi).1 (h0 _)
  · refine sumN_le fun i hi => ?_
    have := Int.mul_le_mul (hw i hi).2 (hB (last - i)) (h0 _) (by decide)
    exact this
/-- The block's elements and its sums. -/
def bAt (v full rest k : Int) : Int := if k < 0 ∨ full < k then 0 else if k < full then v else rest
def bUp (v full d k : Int) : Int := if k < 0 then 0 else if k < full then (k + 1) * v else d
structure Blk (d v full rest : Int) : Prop where
  v1 : 1 ≤ v
  r0 : 0 ≤ rest
  rv : rest < v
  f0 : 0 ≤ full
  dd : d = full * v + rest
theorem Blk.of {d v : Int} (hd : 0 ≤ d) (hv : 1 ≤ v) : Blk d v (d / v) (d % v) := ⟨hv, Int.emod_nonneg _ (by omega), Int.emod_lt_of_pos _ (by omega), Int.ediv_nonneg hd (by omega), by
  have := Int.mul_ediv_add_emod d v
  rw [Int.mul_comm] at this; omega⟩
theorem bUp_at {d v full rest : Int} (B : Blk d v full rest) (k : Int) : bUp v full d k - bUp v full d (k - 1) = bAt v full rest k := by
  obtain ⟨v1, r0, rv, f0, dd⟩ := B
  have e : k * v + v = (k + 1) * v := by rw [Int.add_mul, Int.one_mul]
  have ef : k ≠ full ∨ k * v = full * v := by
    by_cases h : k = full
    · exact .inr (by rw [h])
    · exact .inl h
  have e0 : k ≠ 0 ∨ k * v = 0 := by
    by_cases h : k = 0
    · exact .inr (by rw [h, Int.zero_mul])
    · exact .inl h
  unfold bUp bAt
  rw [show k - 1 + 1 = k by omega]
  generalize k * v = p at *
  generalize (k + 1) * v = q at *
  generalize full * v = r at *
  repeat' split
  all_goals omega
theorem bAt_nonneg {d v full rest : Int} (B : Blk d v full rest) (k : Int) : 0 ≤ bAt v full rest k := by
  have := B.v1; have := B.r0
  unfold bAt; split <;> first
    | omega
    | (split <;> omega)
theorem bAt_le {d v full rest : Int} (B : Blk d v full rest) (k : Int) : bAt v full rest k ≤ v := by
  have := B.v1; have := B.rv
  unfold bAt; split <;> first
    | omega
    | (split <;> omega)
theorem bUp_nonneg {d v full rest : Int} (B : Blk d v full rest) (k : Int) : 0 ≤ bUp v full d k := by
  obtain ⟨v1, r0, rv, f0, dd⟩ := B
  have := Int.mul_nonneg f0 (show (0:Int) ≤ v by omega)
  unfold bUp
  split
  · exact Int.le_refl _
  · split
    · exact Int.mul_nonneg (by omega) (by omega)
    · omega
theorem bUp_le {d v full rest : Int} (B : Blk d v full rest) (k : Int) : bUp v full d k ≤ d := by
  obtain ⟨v1, r0, rv, f0, dd⟩ := B
  have h0 := Int.mul_nonneg f0 (show (0:Int) ≤ v by omega)
  unfold bUp
  split
  · omega
  · split
    · rename_i h
      have := Int.mul_le_mul_of_nonneg_right (show k + 1 ≤ full by omega) (show (0:Int) ≤ v by omega)
      omega
    · omega
/-- Scaled velocity and position of a motion without its direction. -/
def vF (m1 m2 : Nat) (v full rest j : Int) : Int := bx (bx (bAt v full rest) m2) m1 (j - 1)
def pF (m1 m2 : Nat) (v full d j : Int) : Int := bx (bx (bUp v full d) m2) m1 (j - 1)
theorem pF_vF {d v full rest : Int} (B : Blk d v full rest) (m1 m2 : Nat) (j : Int) : pF m1 m2 v full d j - pF m1 m2 v full d (j - 1) = vF m1 m2 v full rest j := by
  have sh : ∀ (f : Int → Int) (n : Nat) (x : Int), bx f n (x - 1) = bx (fun y => f (y - 1)) n x := fun f n x => sumN_congr fun a _ => by rw [show x - 1 - (a : Int) = x - a - 1 by omega]
  unfold pF vF
  rw [show j - 1 - 1 = (j - 1) - 1 by omega, sh (bx (bUp v full d) m2) m1 (j - 1), bx_congr (fun x => sh (bUp v full d) m2 x) m1 (j - 1), ← bx_sub]
  refine bx_congr (fun x => ?_) _ _
  rw [← bx_sub]
  exact bx_congr (fun y => bUp_at B y) _ _
theorem vF_swap (m1 m2 : Nat) (v full rest j : Int) : vF m1 m2 v full rest j = vF m2 m1 v full rest j := bx_swap _ _ _ _
theorem pF_swap (m1 m2 : Nat) (v full d j : Int) : pF m1 m2 v full d j = pF m2 m1 v full d j := bx_swap _ _ _ _
theorem vF_zero (m1 m2 : Nat) {v full rest j : Int} (h : j ≤ 0) : vF m1 m2 v full rest j = 0 :=
  bx_zero fun x _ hx => bx_zero fun y _ hy => by unfold bAt; rw [if_pos (.inl (by omega))]
theorem pF_zero (m1 m2 : Nat) {v full d j : Int} (h : j ≤ 0) : pF m1 m2 v full d j = 0 :=
  bx_zero fun x _ hx => bx_zero fun y _ hy => by unfold bUp; rw [if_pos (by omega)]
theorem vF_nonneg {d v full rest : Int} (B : Blk d v full rest) (m1 m2 : Nat) (j : Int) : 0 ≤ vF m1 m2 v full rest j := bx_nonneg (fun _ => bx_nonneg (bAt_nonneg B) _ _) _ _
theorem pF_nonneg {d v full rest : Int} (B : Blk d v full rest) (m1 m2 : Nat) (j : Int) : 0 ≤ pF m1 m2 v full d j := bx_nonneg (fun _ => bx_nonneg (bUp_nonneg B) _ _) _ _
theorem vF_le {d v full rest : Int} (B : Blk d v full rest) (m1 m2 : Nat) (j : Int) : vF m1 m2 v full rest j ≤ m1 * (m2 * v) := bx_le (fun _ => bx_le (bAt_le B) _ _) _ _
theorem pF_le {d v full rest : Int} (B : Blk d v full rest) (m1 m2 : Nat) (j : Int) : pF m1 m2 v full d j ≤ m1 * (m2 * d) := bx_le (fun _ => bx_le (bUp_le B) _ _) _ _
/-- Acceleration and jerk. -/
theorem vF_acc (m1 m2 : Nat) (v full rest j : Int) : vF m1 m2 v full rest j - vF m1 m2 v full rest (j - 1) = bx (bAt v full rest) m2 (j - 1) - bx (bAt v full rest) m2 (j - 1 - m1) := by
  unfold vF
  rw [show j - 1 - 1 = (j - 1) - 1 by omega]
  exact bx_tel _ m1 (j - 1)
theorem vF_acc_le {d v full rest : Int} (B : Blk d v full rest) (m1 m2 : Nat) (j : Int) : vF m1 m2 v full rest j - vF m1 m2 v full rest (j - 1) ≤ m2 * v ∧ -(m2 * v) ≤ vF m1 m2 v full rest j - vF m1 m2 v full rest (j - 1) := by
  rw [vF_acc]
  have a := bx_le (bAt_le B) m2 (j - 1)
  have b := bx_nonneg (bAt_nonneg B) m2 (j - 1)
  have c := bx_le (bAt_le B) m2 (j - 1 - m1)
  have e := bx_nonneg (bAt_nonneg B) m2 (j - 1 - m1)
  omega
theorem vF_acc_le' {d v full rest : Int} (B : Blk d v full rest) (m1 m2 : Nat) (j : Int) : vF m1 m2 v full rest j - vF m1 m2 v full rest (j - 1) ≤ m1 * v ∧ -(m1 * v) ≤ vF m1 m2 v full rest j - vF m1 m2 v full rest (j - 1) := by
  rw [vF_swap m1 m2, vF_swap m1 m2]; exact vF_acc_le B m2 m1 j
theorem vF_jerk_le {d v full rest : Int} (B : Blk d v full rest) (m1 m2 : Nat) (j : Int) :
    vF m1 m2 v full rest j - 2 * vF m1 m2 v full rest (j - 1) + vF m1 m2 v full rest (j - 2) ≤ 2 * v ∧ -(2 * v) ≤ vF m1 m2 v full rest j - 2 * vF m1 m2 v full rest (j - 1) + vF m1 m2 v full rest (j - 2) := by
  have h1 := vF_acc m1 m2 v full rest j
  have h2 := vF_acc m1 m2 v full rest (j - 1)
  have h3 := bx_tel (bAt v full rest) m2 (j - 1)
  have h4 := bx_tel (bAt v full rest) m2 (j - 1 - m1)
  rw [show j - 1 - 1 = j - 2 by omega] at h2 h3
  rw [show j - 1 - (m1 : Int) - 1 = j - 2 - m1 by omega] at h4
  have n1 := bAt_nonneg B (j - 1)
  have n2 := bAt_nonneg B (j - 1 - m2)
  have n3 := bAt_nonneg B (j - 1 - m1)
  have n4 := bAt_nonneg B (j - 1 - m1 - m2)
  have l1 := bAt_le B (j - 1)
  have l2 := bAt_le B (j - 1 - m2)
  have l3 := bAt_le B (j - 1 - m1)
  have l4 := bAt_le B (j - 1 - m1 - m2)
  omega
/-- The number of elements that are not 0. -/
def elN (full rest : Int) : Int := if 0 < rest then full + 1 else full
theorem bUp_end {d v full rest k : Int} (B : Blk d v full rest) (h : elN full rest - 1 ≤ k) (h0 : 0 ≤ k) : bUp v full d k = d := by
  obtain ⟨v1, r0, rv, f0, dd⟩ := B
  unfold elN at h
  unfold bUp
  rw [if_neg (by omega)]
  split
  · rename_i hk
    split at h
    · omega
    · have : k + 1 = full := by omega
      rw [this]; omega
  · rfl
theorem bAt_end {d v full rest k : Int} (B : Blk d v full rest) (h : elN full rest ≤ k) : bAt v full rest k = 0 := by
  obtain ⟨v1, r0, rv, f0, dd⟩ := B
  unfold elN at h
  unfold bAt
  split
  · rfl
  · split at h
    · omega
    · rw [if_neg (by omega)]; omega
theorem bAt_last {d v full rest : Int} (B : Blk d v full rest) (h : 0 < elN full rest) : 0 < bAt v full rest (elN full rest - 1) := by
  obtain ⟨v1, r0, rv, f0, dd⟩ := B
  unfold elN at h ⊢
  unfold bAt
  split
  · rw [if_neg (by omega), if_neg (by omega)]; omega
  · rename_i hr
    rw [if_neg hr] at h
    rw [if_neg (by omega), if_pos (by omega)]; omega
theorem pF_end {d v full rest : Int} (B : Blk d v full rest) {m1 m2 : Nat} {j : Int} (hE : 0 < elN full rest) (h : elN full rest + m1 + m2 - 1 ≤ j) : pF m1 m2 v full d j = m1 * (m2 * d) :=
  bx_const fun x hx _ => bx_const fun y hy _ => bUp_end B (by omega) (by omega)
theorem vF_end {d v full rest : Int} (B : Blk d v full rest) {m1 m2 : Nat} {j : Int} (h : elN full rest + m1 + m2 - 1 ≤ j) : vF m1 m2 v full rest j = 0 :=
  bx_zero fun x hx _ => bx_zero fun y hy _ => bAt_end B (by omega)
theorem bx_pos {f : Int → Int} (h : ∀ x, 0 ≤ f x) {n : Nat} {j : Int} (hp : 0 < f (j - n)) : 0 < bx f (n + 1) j := by
  have : 0 ≤ sumN (fun a => f (j - a)) n := sumN_nonneg fun _ _ => h _
  show 0 < sumN (fun a => f (j - a)) n + f (j - n)
  omega
theorem vF_before {d v full rest : Int} (B : Blk d v full rest) {m1 m2 : Nat} (h1 : 1 ≤ m1) (h2 : 1 ≤ m2) (hE : 0 < elN full rest) : 0 < vF m1 m2 v full rest (elN full rest + m1 + m2 - 2) := by
  obtain ⟨a, rfl⟩ : ∃ a, m1 = a + 1 := ⟨m1 - 1, by omega⟩
  obtain ⟨b, rfl⟩ : ∃ b, m2 = b + 1 := ⟨m2 - 1, by omega⟩
  refine bx_pos (fun _ => bx_nonneg (bAt_nonneg B) _ _) (bx_pos (bAt_nonneg B) ?_)
  rw [show elN full rest + ((a + 1 : Nat) : Int) + ((b + 1 : Nat) : Int) - 2 - 1 - (a : Int) - b = elN full rest - 1 by omega]
  exact bAt_last B hE
end Go.Proofs.Ytpndkmppncpkgaa.Img
