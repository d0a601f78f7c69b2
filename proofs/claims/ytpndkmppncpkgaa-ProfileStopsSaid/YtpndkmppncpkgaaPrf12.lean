/- Chapter 37: what a filter holds after some elements. Conditions: none. -/
import Derived.Test.YtpndkmppncpkgaaPrf11
namespace Go.Proofs.Ytpndkmppncpkgaa.Img
open Go Go.Proofs.Ytpndkmppncpkgaa.AI Go.Proofs
theorem sumN_head (g : Nat → Int) (n : Nat) : sumN g (n + 1) = g 0 + sumN (fun i => g (i + 1)) n := by
  have := sumN_shift g 1 n
  rw [Nat.add_comm 1 n] at this
  rw [this, show sumN g 1 = g 0 by simp [sumN]]
  congr 1
  exact sumN_congr fun i _ => by rw [Nat.add_comm]
theorem sumN_rev (g : Nat → Int) : ∀ n : Nat, sumN g n = sumN (fun i => g (n - 1 - i)) n
  | 0 => rfl
  | n + 1 => by
    rw [sumN_head (fun i => g (n + 1 - 1 - i)) n]
    simp only [sumN]
    rw [sumN_rev g n, Int.add_comm]
    congr 1
    exact sumN_congr fun i _ => by rw [show n + 1 - 1 - (i + 1) = n - 1 - i by omega]
/-- The sum of what a list holds, its last being h j. -/
theorem sum_bx (h : Int → Int) (n : Nat) (c : Int) : sumN (fun i => h (c + i)) n = bx h n (c + n - 1) := by
  rw [sumN_rev]
  exact sumN_congr fun i hi => by rw [show c + ((n - 1 - i : Nat) : Int) = c + n - 1 - i by omega]
theorem sumW_eq {f : Nat → Int} {B : Int} (hB : 0 ≤ B) : ∀ {n : Nat}, (∀ i, i < n → -B ≤ f i ∧ f i ≤ B) → n * B ≤ 4611686018427387904 → sumW f n = sumN f n
  | 0, _, _ => rfl
  | n + 1, h, hn => by
    have hn' : (n : Int) * B + B ≤ 4611686018427387904 := by rw [Int.natCast_add, Int.add_mul] at hn; omega
    have e := sumW_eq (n := n) hB (fun i hi => h i (by omega)) (by omega)
    have b := sumN_abs (n := n) (fun i hi => h i (by omega))
    have l := h n (by omega)
    rw [sumW, sumN, e, wr_id (by omega) (by omega)]
structure FInv (a b : Nat) (U : Int → Int) (i : Nat) (F G : Nat → Int) : Prop where
  f : ∀ j, j < a → F j = U (i - a + j)
  g : ∀ j, j < b → G j = bx U a (i - b + j)
theorem bx_neg {U : Int → Int} (h : ∀ t, t < 0 → U t = 0) (a : Nat) {t : Int} (ht : t < 0) : bx U a t = 0 := bx_zero fun x _ hx => h x (by omega)
theorem finv0 {a b : Nat} {U : Int → Int} (h : ∀ t, t < 0 → U t = 0) : FInv a b U 0 (fun _ => 0) (fun _ => 0) :=
  ⟨fun j hj => (h _ (by omega)).symm, fun j hj => (bx_neg h a (by omega)).symm⟩
theorem finv_step {a b : Nat} {U : Int → Int} {i : Nat} {F G : Nat → Int} (H : FInv a b U i F G) (ha : 1 ≤ a) (hb : 1 ≤ b) {u s : Int} (hu : u = U i) (hs : s = bx U a i) : FInv a b U (i + 1) (shf F a u) (shf G b s) := by
  constructor
  · intro j hj
    unfold shf
    split
    · rename_i h; rw [H.f (j + 1) h]; congr 1; omega
    · rename_i h; rw [hu]; congr 1; omega
  · intro j hj
    unfold shf
    split
    · rename_i h; rw [H.g (j + 1) h]; congr 1; omega
    · rename_i h; rw [hs]; congr 1; omega
theorem U_bx {U : Int → Int} (hU : ∀ t, -16777216 ≤ U t ∧ U t ≤ 16777216) {a : Nat} (ha : a ≤ 256) (t : Int) : -(16777216 * a) ≤ bx U a t ∧ bx U a t ≤ 16777216 * a := by
  have := bx_abs (B := 16777216) (fun x => by have := hU x; omega) a t
  omega
theorem finv_chk {a b : Nat} {U : Int → Int} {i : Nat} {F G : Nat → Int} (H : FInv a b U i F G) (hU : ∀ t, -16777216 ≤ U t ∧ U t ≤ 16777216) (ha : 1 ≤ a ∧ a ≤ 256) (hb : 1 ≤ b ∧ b ≤ 256) : fchk a b a b F G = 0 := by
  refine fchk_0 (bchk0.2 ⟨⟨by omega, by omega⟩, by omega, by omega⟩) ⟨rfl, rfl⟩ ?_
  have no : ∀ {p : Nat → Bool} {n : Nat}, (∀ j, j < n → p j = false) → anyP p n 0 = false := fun {p n} h => by
    have : ∀ k i, i + k ≤ n → anyP p k i = false := fun k => by
      induction k with
      | zero => exact fun _ _ => rfl
      | succ k ih => intro i hi; rw [anyP, h i (by omega), ih (i + 1) (by omega)]; rfl
    exact this n 0 (by omega)
  have e1 : out16 F a = false := no fun j hj => by
    have := hU (i - a + j)
    rw [bey_def (by decide), H.f j hj, decide_eq_false (by omega), decide_eq_false (by omega)]; rfl
  have e2 : outM a G b = false := no fun j hj => by
    have := U_bx hU ha.2 (i - b + j)
    rw [bey_def (by omega), H.g j hj, decide_eq_false (by omega), decide_eq_false (by omega)]; rfl
  rw [e1, e2]; rfl
theorem finv_sm {a b : Nat} {U : Int → Int} {i : Nat} {F G : Nat → Int} (H : FInv a b U i F G) (hU : ∀ t, -16777216 ≤ U t ∧ U t ≤ 16777216) (ha : 1 ≤ a ∧ a ≤ 256) (hb : 1 ≤ b ∧ b ≤ 256) {u : Int} (hu : u = U i) : uC u = U i ∧ sm1 a F u = bx U a i := by
  have l := hU i
  have e : uC u = U i := by unfold uC clip; omega
  refine ⟨e, ?_⟩
  have S := finv_step H ha.1 hb.1 e rfl
  unfold sm1
  rw [sumW_eq (B := 16777216) (by decide) (fun j hj => by rw [S.f j hj]; exact ⟨(hU _).1, (hU _).2⟩) (by omega), sumN_congr fun j hj => S.f j hj, sum_bx U a]
  congr 1; omega
theorem finv_vel {a b : Nat} {U : Int → Int} {i : Nat} {F G : Nat → Int} (H : FInv a b U i F G) (hU : ∀ t, -16777216 ≤ U t ∧ U t ≤ 16777216) (ha : 1 ≤ a ∧ a ≤ 256) (hb : 1 ≤ b ∧ b ≤ 256) {u : Int} (hu : u = U i) : vel a b F G u = bx (bx U a) b i := by
  obtain ⟨e, es⟩ := finv_sm H hU ha hb hu
  have S := finv_step H ha.1 hb.1 e es
  unfold vel
  have hB : ∀ j, j < b → -4294967296 ≤ shf G b (sm1 a F u) j ∧ shf G b (sm1 a F u) j ≤ 4294967296 := fun j hj => by
    have := U_bx hU ha.2 ((i + 1 : Nat) - b + j)
    rw [S.g j hj]; omega
  rw [sumW_eq (B := 4294967296) (by decide) hB (by omega), sumN_congr fun j hj => S.g j hj, sum_bx (bx U a) b]
  congr 1; omega
theorem finv_next {a b : Nat} {U : Int → Int} {i : Nat} {F G : Nat → Int} (H : FInv a b U i F G) (hU : ∀ t, -16777216 ≤ U t ∧ U t ≤ 16777216) (ha : 1 ≤ a ∧ a ≤ 256) (hb : 1 ≤ b ∧ b ≤ 256) {u : Int} (hu : u = U i) : FInv a b U (i + 1) (shf F a (uC u)) (shf G b (sm1 a F u)) :=
  finv_step H ha.1 hb.1 (finv_sm H hU ha hb hu).1 (finv_sm H hU ha hb hu).2
theorem acc_gen {U : Int → Int} {M : Int} (h0 : ∀ x, 0 ≤ U x) (hM : ∀ x, U x ≤ M) (a b : Nat) (j : Int) : bx (bx U a) b j - bx (bx U a) b (j - 1) ≤ a * M ∧ -(a * M) ≤ bx (bx U a) b j - bx (bx U a) b (j - 1) := by
  rw [bx_tel]
  have h1 := bx_le hM a j
  have h2 := bx_nonneg h0 a j
  have h3 := bx_le hM a (j - b)
  have h4 := bx_nonneg h0 a (j - b)
  omega
theorem acc_gen' {U : Int → Int} {M : Int} (h0 : ∀ x, 0 ≤ U x) (hM : ∀ x, U x ≤ M) (a b : Nat) (j : Int) : bx (bx U a) b j - bx (bx U a) b (j - 1) ≤ b * M ∧ -(b * M) ≤ bx (bx U a) b j - bx (bx U a) b (j - 1) := by
  rw [bx_swap U a b j, bx_swap U a b (j - 1)]; exact acc_gen h0 hM b a j
theorem jerk_gen {U : Int → Int} {M : Int} (h0 : ∀ x, 0 ≤ U x) (hM : ∀ x, U x ≤ M) (a b : Nat) (j : Int) :
    (bx (bx U a) b j - bx (bx U a) b (j - 1)) - (bx (bx U a) b (j - 1) - bx (bx U a) b (j - 2)) ≤ 2 * M ∧ -(2 * M) ≤ (bx (bx U a) b j - bx (bx U a) b (j - 1)) - (bx (bx U a) b (j - 1) - bx (bx U a) b (j - 2)) := by
  have t1 := bx_tel (bx U a) b j
  have t2 := bx_tel (bx U a) b (j - 1)
  rw [show j - 1 - 1 = j - 2 by omega] at t2
  have t3 := bx_tel U a j
  have t4 := bx_tel U a (j - b)
  rw [show j - (b : Int) - 1 = j - 1 - b by omega] at t4
  have n1 := h0 j
  have n2 := h0 (j - a)
  have n3 := h0 (j - b)
  have n4 := h0 (j - b - a)
  have l1 := hM j
  have l2 := hM (j - a)
  have l3 := hM (j - b)
  have l4 := hM (j - b - a)
  omega
theorem dif_eq {x y : Int} (hx : -1125899906842624 ≤ x ∧ x ≤ 1125899906842624) (hy : -1125899906842624 ≤ y ∧ y ≤ 1125899906842624) : dif x y = x - y := by
  unfold dif clip; rw [show max (-1125899906842624) (min y 1125899906842624) = y by omega, wr_id (by omega) (by omega)]
theorem pos_eq {p v : Int} (hp : -1152921504606846976 ≤ p ∧ p ≤ 1152921504606846976) (hv : -1152921504606846976 ≤ p + v ∧ p + v ≤ 1152921504606846976) : pos p v = p + v := by
  unfold pos clip; rw [show max (-1152921504606846976) (min p 1152921504606846976) = p by omega, wr_id (by omega) (by omega)]; omega
theorem renI {k : IntKind} {x y : Int} (h : x = y) : AV.int k x = .int k y ∧ idFree (.int k y) = true := ⟨by rw [h], rfl⟩
theorem renS {z n m : Nat} {f g : Nat → Nat → AV} (h : n = m) (hf : f = g) : AV.sl z n f = .sl z m g ∧ idFree (.sl z m g) = true := ⟨by rw [h, hf], rfl⟩
/-- The block as a sequence. -/
def blU (d v : Int) (t : Int) : Int := sg d * bAt v (ab d / v) (ab d % v) t
theorem blU_bd {d v a b : Int} (h : pOK d v a b) (t : Int) : -16777216 ≤ blU d v t ∧ blU d v t ≤ 16777216 := by
  have := h.1
  have := sg_abs (d := d) ⟨bAt_nonneg h.blk t, bAt_le h.blk t⟩
  unfold blU; omega
theorem blU_neg (d v : Int) (t : Int) (ht : t < 0) : blU d v t = 0 := by unfold blU; rw [bAt, if_pos (.inl ht), Int.mul_zero]
theorem blU_v (d v : Int) (A B : Nat) (i : Int) : bx (bx (blU d v) A) B i = vP d v A B (i + 1) := by
  unfold vP velR vF
  rw [Int.toNat_natCast, Int.toNat_natCast, show i + 1 - 1 = i by omega, ← bx_swap, ← bx_mul]
  exact bx_congr (fun x => bx_mul _ _ _ _) _ _
theorem rest_zero {a b : Int} (h : bchk a b = 0) {n m : Nat} (hn : (n : Int) = a) (hm : (m : Int) = b) : restV a b n m (fun _ => 0) (fun _ => 0) 0 = true := by
  have no : ∀ (k i : Nat), anyP (fun _ => false) k i = false := fun k => by
    induction k with
    | zero => exact fun _ => rfl
    | succ k ih => intro i; rw [anyP, ih]; rfl
  have e1 : out16 (fun _ => 0) n = false := by
    unfold out16; rw [show (fun (_ : Nat) => bey 16777216 0) = fun _ => false from funext fun _ => by rw [bey_def (by decide)]; rfl]; exact no _ _
  have hb := bchk0.1 h
  have e2 : outM a (fun _ => 0) m = false := by
    unfold outM; rw [show (fun (_ : Nat) => bey (16777216 * a) 0) = fun _ => false from funext fun _ => by rw [bey_def (by omega), decide_eq_false (by omega), decide_eq_false (by omega)]; rfl]; exact no _ _
  rw [restV, fchk_0 h ⟨hn, hm⟩ (by rw [e1, e2]; rfl)]
  have : (fun (_ : Nat) => !decide ((0 : Int) = 0)) = fun _ => false := rfl
  rw [this, no, no]; rfl
end Go.Proofs.Ytpndkmppncpkgaa.Img
